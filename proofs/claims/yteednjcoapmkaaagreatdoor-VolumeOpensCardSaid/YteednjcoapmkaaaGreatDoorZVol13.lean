/- Contracts of functions of the given program, and plain laws: parts of the proofs of laws. -/
import Derived.Test.YteednjcoapmkaaaGreatDoorZVol7
import Derived.Test.YteednjcoapmkaaaGreatDoorZVol12
import Derived.Test.YteednjcoapmkaaaGreatDoorZVol9
import Derived.Test.YteednjcoapmkaaaGreatDoorZVol10
import Derived.Test.YteednjcoapmkaaaGreatDoorZVol11
/- Contracts of functions of the given program, and plain laws on what they compute: parts of the proofs of laws. -/

namespace Go.Proofs.YteednjcoapmkaaaGreatDoor
open Go Go.GL

set_option maxHeartbeats 1000000 in
set_option maxRecDepth 10000 in
theorem qnumber_ro (x : Int) : RO G 106 [.int .i64 x] (fun _ => True) (.string (ba (numB (clampN x)))) := by
  refine RO.enter Tryz.func106 rfl (by decide) rfl Tryz.ntmps106 rfl (fun A hu hA => ?_) (fun _ _ _ h => h)
  repeat (first | refine GO ?_ | refine NW fun _ => ?_)
  have hcl : (if (0 : Int) < (if (1152921504606846975 : Int) < x then (1152921504606846975 : Int) else x) then (if (1152921504606846975 : Int) < x then (1152921504606846975 : Int) else x) else 0) = (clampN x : Int) := by
    unfold clampN widest
    split <;> split <;> omega
  rw [hcl]
  have hc1 := clamp_le x
  unfold widest at hc1
  have h9 := numB_nine x
  generalize clampN x = y0 at *
  refine WC.loop (σ := List UInt8 × Nat) (fun s => s.1 ++ numB s.2 = numB y0 ∧ s.2 ≤ y0)
    (fun s => [(0, .val (.int .i64 s.2)), (3, .val (.string (ba s.1)))])
    (fun _ => [A]) (fun s => s.2) ([], y0) ⟨rfl, Nat.le_refl _⟩ ⟨rfl, rfl, trivial⟩ II ?_
  rintro ⟨l1, y⟩ ⟨hl1, hy⟩
  dsimp only at hl1 hy ⊢
  have hlen1 : l1.length + (numB y).length = (numB y0).length := by rw [← hl1, List.length_append]
  have hsz := ba_size l1
  by_cases hge : 128 ≤ y
  · rw [numB_ge (by omega)] at hl1
    have hb : Value.int .u8 ((y : Int) % 128 + 128) = byteV (UInt8.ofNat (y % 128 + 128)) := by
      unfold byteV; congr 1; rw [UInt8.toNat_ofNat']; omega
    have hd : (y : Int) / 128 = ((y / 128 : Nat) : Int) := by omega
    repeat (first | refine GD ?_ | refine NW fun _ => ?_)
    rw [hb]
    refine WL.step rfl (OP.toStr (sv := ba [UInt8.ofNat (y % 128 + 128)]) rfl rfl rfl rfl rfl rfl rfl rfl (by rw [strCells_ba]; exact Ent.own (T := 5) MM) rfl rfl ?_)
    have hs1 : (ba [UInt8.ofNat (y % 128 + 128)]).size = 1 := rfl
    repeat (first | refine GD ?_ | refine NW fun _ => ?_)
    rw [ba_app, hd]
    exact ⟨(l1 ++ [UInt8.ofNat (y % 128 + 128)], y / 128), ⟨by simp only []; rw [List.append_assoc]; exact hl1, by dsimp only; omega⟩, by dsimp only; omega, ⟨rfl, rfl, trivial⟩, II⟩
  · rw [numB_lt (by omega)] at hl1
    have hb : Value.int .u8 (y : Int) = byteV (UInt8.ofNat y) := by
      unfold byteV; congr 1; rw [UInt8.toNat_ofNat']; omega
    repeat (first | refine GD ?_ | refine NW fun _ => ?_)
    rw [hb]
    refine WL.step rfl (OP.toStr (sv := ba [UInt8.ofNat y]) rfl rfl rfl rfl rfl rfl rfl rfl (by rw [strCells_ba]; exact Ent.own (T := 5) MM) rfl rfl ?_)
    have hs1 : (ba [UInt8.ofNat y]).size = 1 := rfl
    repeat (first | refine GD ?_ | refine NW fun _ => ?_)
    rw [ba_app, hl1]
    exact ret1 rfl ⟨rfl, MM⟩
set_option maxRecDepth 10000 in
theorem qtext_ro (s : ByteArray) (hs : s.size < 1000000) : RO G 107 [.string s] (fun _ => True) (.string (ba (textB s))) := by
  refine RO.enter Tryz.func107 rfl (by decide) rfl Tryz.ntmps107 rfl (fun A hu hA => ?_) (fun _ _ _ h => h)
  repeat (first | refine GO ?_ | refine NW fun _ => ?_)
  refine WL.step rfl (OP.callRO rfl rfl (qnumber_ro s.size) (fun _ _ => trivial) rfl rfl ?_)
  have h9 := numB_nine s.size
  rw [clamp_nat s.size (by unfold widest; omega)] at h9 ⊢
  have hsz := ba_size (numB s.size)
  repeat (first | refine GD ?_ | refine NW fun _ => ?_)
  rw [ba_appD]
  exact ret1 rfl ⟨rfl, MM⟩
set_option maxHeartbeats 4000000 in
set_option maxRecDepth 10000 in
theorem qright_ro (r : Rec) (hsz : r.2.2.2.1.size < 1000000) : RO G 88 [.agg (encR r).toArray] (fun _ => True) (.bool (decide (RightR r))) := by
  refine RO.enter Tryz.func88 rfl (by decide) rfl Tryz.ntmps88 rfl (fun A hu hA => ?_) (fun _ _ _ h => h)
  obtain ⟨seq, kind, block, data, num⟩ := r
  unfold RightR widest
  dsimp only at hsz ⊢
  rw [show encR (seq, kind, block, data, num) = [.int .i64 seq, .int .i64 kind, .int .i64 block, .string data, .int .i64 num] from rfl]
  by_cases hs1 : seq < 1
  · repeat (first | refine GD ?_ | refine NW fun _ => ?_)
    exact ret1 rfl ⟨congrArg Value.bool (decide_eq_false (fun h => by have := h.1; omega)).symm, MM⟩
  by_cases hs2 : 1152921504606846975 < seq
  · repeat (first | refine GD ?_ | refine NW fun _ => ?_)
    exact ret1 rfl ⟨congrArg Value.bool (decide_eq_false (fun h => by have := h.1; omega)).symm, MM⟩
  have hs3 : (1 ≤ seq ∧ seq ≤ 1152921504606846975) := by omega
  by_cases h1 : kind = 1
  · by_cases hb0 : 0 ≤ block
    rotate_left
    · repeat (first | refine GD ?_ | refine NW fun _ => ?_)
      exact ret1 rfl ⟨by first | (simp; omega) | (simp [*]; omega) | simp [*], MM⟩
    by_cases hb8 : block ≤ 7
    rotate_left
    · repeat (first | refine GD ?_ | refine NW fun _ => ?_)
      exact ret1 rfl ⟨by first | (simp; omega) | (simp [*]; omega) | simp [*], MM⟩
    have hb8' : block < 8 := by omega
    by_cases hs16 : data.size ≤ 16
    rotate_left
    · repeat (first | refine GD ?_ | refine NW fun _ => ?_)
      exact ret1 rfl ⟨by first | (simp; omega) | (simp [*]; omega) | simp [*], MM⟩
    by_cases hn0 : num = 0
    · repeat (first | refine GD ?_ | refine NW fun _ => ?_)
      exact ret1 rfl ⟨by first | (simp; omega) | (simp [*]; omega) | simp [*], MM⟩
    · repeat (first | refine GD ?_ | refine NW fun _ => ?_)
      exact ret1 rfl ⟨by first | (simp; omega) | (simp [*]; omega) | simp [*], MM⟩
  · by_cases h2 : kind = 2
    rotate_left
    · repeat (first | refine GD ?_ | refine NW fun _ => ?_)
      exact ret1 rfl ⟨by first | (simp; omega) | (simp [*]; omega) | simp [*], MM⟩
    by_cases hb : block = 0
    rotate_left
    · repeat (first | refine GD ?_ | refine NW fun _ => ?_)
      exact ret1 rfl ⟨by first | (simp; omega) | (simp [*]; omega) | simp [*], MM⟩
    by_cases hd : data = ⟨#[]⟩
    rotate_left
    · repeat (first | refine GD ?_ | refine NW fun _ => ?_)
      exact ret1 rfl ⟨by first | (simp; omega) | (simp [*]; omega) | simp [*], MM⟩
    by_cases hn1 : 1 ≤ num
    rotate_left
    · repeat (first | refine GD ?_ | refine NW fun _ => ?_)
      exact ret1 rfl ⟨by first | (simp; omega) | (simp [*]; omega) | simp [*], MM⟩
    by_cases hn2 : num ≤ 1152921504606846975
    · repeat (first | refine GD ?_ | refine NW fun _ => ?_)
      exact ret1 rfl ⟨by first | (simp; omega) | (simp [*]; omega) | simp [*], MM⟩
    · repeat (first | refine GD ?_ | refine NW fun _ => ?_)
      exact ret1 rfl ⟨by first | (simp; omega) | (simp [*]; omega) | simp [*], MM⟩
theorem encR_eq (seq kind block num : Int) (data : ByteArray) : encR (seq, kind, block, data, num) = [.int .i64 seq, .int .i64 kind, .int .i64 block, .string data, .int .i64 num] := rfl
set_option maxHeartbeats 4000000 in
set_option maxRecDepth 10000 in
theorem qbytes_ro (gen : Int) (r : Rec) (hr : RightR r) : RO G 89 [.int .i64 gen, .agg (encR r).toArray] (fun _ => True) (.string (ba (sectorM (bodyM gen r)))) := by
  refine RO.enter Tryz.func89 rfl (by decide) rfl Tryz.ntmps89 rfl (fun A hu hA => ?_) (fun _ _ _ h => h)
  have hbl := bodyM_len (gen := gen) hr
  obtain ⟨seq, kind, block, data, num⟩ := r
  rw [encR_eq]
  have hg9 := numB_nine gen
  have hs9 := numB_nine seq
  have hk9 := numB_nine kind
  have hgz := ba_size (numB (clampN gen))
  have hsz := ba_size (numB (clampN seq))
  have hkz := ba_size (numB (clampN kind))
  repeat (first | refine GO ?_ | refine NW fun _ => ?_)
  rename_i q
  refine RD 10 11 (_) ?_
  refine WW 0 ?_
  refine WW 2 ?_; refine WW 3 ?_
  refine WW 6 ?_; refine WW 7 ?_
  refine WH.only 1 rfl rfl (by kernel_rfl) rfl (OP.callRO rfl rfl (qnumber_ro gen) (fun _ _ => trivial) rfl rfl ⟨fun _ => II, ?_⟩)
  refine WH.only 4 rfl rfl (by kernel_rfl) rfl (OP.callRO rfl rfl (qnumber_ro seq) (fun _ _ => trivial) rfl rfl ⟨fun _ => II, ?_⟩)
  refine WW 5 ?_
  rw [ba_app]
  generalize hp1 : numB (clampN gen) ++ numB (clampN seq) = p1
  have hp1l : p1.length ≤ 18 := by rw [← hp1, List.length_append]; omega
  have hp1z := ba_size p1
  refine WH.only 8 rfl rfl (by kernel_rfl) rfl (OP.callRO rfl rfl (qnumber_ro kind) (fun _ _ => trivial) rfl rfl ⟨fun _ => II, ?_⟩)
  refine WW 9 ?_
  rw [ba_app]
  refine WW 10 ?_
  refine DN ?_
  generalize hp2 : p1 ++ numB (clampN kind) = p2
  have hp2l : p2.length ≤ 27 := by rw [← hp2, List.length_append]; omega
  have hp2z := ba_size p2
  by_cases h1 : kind = 1
  · have hb : data.size ≤ 16 := by
      have h2 := hr.2
      dsimp only at h2
      rcases h2 with h2 | h2
      · omega
      · exact h2.2.2.1
    have hb9 := numB_nine block
    have hbz := ba_size (numB (clampN block))
    have htz := ba_size (textB data)
    have htl : (textB data).length ≤ 26 := by
      have := numB_nine data.size
      rw [clamp_nat data.size (by unfold widest; omega)] at this
      have h7 : data.data.toList.length = data.size := Array.length_toList
      unfold textB
      rw [List.length_append]
      omega
    repeat (first | refine GD ?_ | refine NW fun _ => ?_)
    refine RD 9 10 (_) ?_
    refine WW 0 ?_; refine WW 1 ?_; refine WW 2 ?_
    refine WW 5 ?_; refine WW 6 ?_
    refine WH.only 3 rfl rfl (by kernel_rfl) rfl (OP.callRO rfl rfl (qnumber_ro block) (fun _ _ => trivial) rfl rfl ⟨fun _ => II, ?_⟩)
    refine WW 4 ?_
    rw [ba_app]
    generalize hp3 : p2 ++ numB (clampN block) = p3
    have hp3l : p3.length ≤ 36 := by rw [← hp3, List.length_append]; omega
    have hp3z := ba_size p3
    refine WH.only 7 rfl rfl (by kernel_rfl) rfl (OP.callRO rfl rfl (qtext_ro data (by omega)) (fun _ _ => trivial) rfl rfl ⟨fun _ => II, ?_⟩)
    refine WW 8 ?_
    rw [ba_app]
    refine WW 9 ?_
    refine DN ?_
    have hbody : p3 ++ textB data = bodyM gen (seq, kind, block, data, num) := by
      unfold bodyM
      dsimp only
      rw [if_pos h1, ← hp3, ← hp2, ← hp1]
      simp only [List.append_assoc]
    rw [hbody]
    repeat (first | refine GD ?_ | refine NW fun _ => ?_)
    refine WL.step rfl (OP.callRO rfl rfl (qsector_ro _ hbl) (fun _ _ => trivial) rfl rfl ?_)
    repeat (first | refine GD ?_ | refine NW fun _ => ?_)
    exact ret1 rfl ⟨rfl, MM⟩
  · have hn9 := numB_nine num
    have hnz := ba_size (numB (clampN num))
    repeat (first | refine GD ?_ | refine NW fun _ => ?_)
    refine WL.step rfl (OP.callRO rfl rfl (qnumber_ro num) (fun _ _ => trivial) rfl rfl ?_)
    repeat (first | refine GD ?_ | refine NW fun _ => ?_)
    rw [ba_app]
    have hbody : p2 ++ numB (clampN num) = bodyM gen (seq, kind, block, data, num) := by
      unfold bodyM
      dsimp only
      rw [if_neg h1, ← hp2, ← hp1]
    rw [hbody]
    refine WL.step rfl (OP.callRO rfl rfl (qsector_ro _ hbl) (fun _ _ => trivial) rfl rfl ?_)
    repeat (first | refine GD ?_ | refine NW fun _ => ?_)
    exact ret1 rfl ⟨rfl, MM⟩
end Go.Proofs.YteednjcoapmkaaaGreatDoor
/- Contracts of functions of the given program, and plain laws on what they compute: parts of the proofs of laws. -/

namespace Go.Proofs.YteednjcoapmkaaaGreatDoor
open Go Go.GL

/-- the reference's reader, as it stands: what is left, what was wrong -/
def qrd (r : Nat) (s : PR) : Assn := blk r [.string (ba s.1), .int .i64 s.2] 158
theorem extractB (b : ByteArray) (i n : Nat) : b.extract i (i + n) = ba ((b.data.toList.drop i).take n) := by
  cases b with | mk d =>
  have : (ByteArray.mk d).extract i (i + n) = ⟨d.extract i (i + n)⟩ := by
    apply ByteArray.ext
    simp
  rw [this]
  unfold ba
  congr 1
  apply Array.toList_inj.1
  simp

theorem ba_take (l : List UInt8) (n : Nat) : (ba l).extract 0 n = ba (l.take n) := by
  have := extractB (ba l) 0 n
  simpa [ba] using this
theorem ba_drop (l : List UInt8) (i : Nat) : (ba l).extract i (ba l).size = ba (l.drop i) := by
  by_cases h : i ≤ l.length
  · have := extractB (ba l) i (l.length - i)
    rw [show i + (l.length - i) = (ba l).size by rw [ba_size]; omega] at this
    rw [this]
    have h2 : (ba l).data.toList = l := by simp [ba]
    rw [h2, List.take_of_length_le (by rw [List.length_drop]; exact Nat.le_refl _)]
  · have h1 : l.drop i = [] := List.drop_eq_nil_of_le (by omega)
    rw [h1]
    have : (ba l).size ≤ i := by rw [ba_size]; omega
    apply ByteArray.ext
    apply Array.ext'
    have h3 : ((ba l).extract i (ba l).size).size = 0 := by rw [ByteArray.size_extract]; omega
    have h4 : ((ba l).extract i (ba l).size).data.toList.length = 0 := by simpa using h3
    rw [List.length_eq_zero_iff.1 h4]
    rfl
set_option maxRecDepth 10000 in
theorem qwrong_ok (r : Nat) (x : Value) (e c : Int) : Triple G 111 [.pointer (some ⟨r, 0, none⟩), .int .i64 c] [blk r [x, .int .i64 e] 158] (fun v M => v = .tuple #[] ∧ M = [qrd r ([], c)]) := by
  refine Triple.enter Tryz.func111 rfl (by decide) rfl Tryz.ntmps111 rfl (fun F => ?_)
  repeat (first | refine GO ?_ | refine NW fun _ => ?_)
  exact ret0n ⟨_, ⟨rfl, rfl⟩, Imp.refl _⟩
set_option maxHeartbeats 4000000 in
set_option maxRecDepth 10000 in
theorem qnum_ok (r : Nat) (s : PR) (hl : s.1.length < 1000000) :
    Triple G 85 [.pointer (some ⟨r, 0, none⟩)] [qrd r s] (fun v M => v = .int .i64 (numR s).1 ∧ M = [qrd r (numR s).2]) := by
  refine Triple.enter Tryz.func85 rfl (by decide) rfl Tryz.ntmps85 rfl (fun F => ?_)
  obtain ⟨l, e⟩ := s
  dsimp only at hl ⊢
  unfold qrd
  by_cases he : e = 0
  rotate_left
  · rw [numR_err he]
    repeat (first | refine GD ?_ | refine NW fun _ => ?_)
    exact ret1 rfl ⟨_, ⟨rfl, rfl⟩, Imp.refl _⟩
  subst he
  have hsz := ba_size l
  rw [numR_zero]
  generalize hF : rdN 0 0 l = R
  repeat (first | refine GD ?_ | refine NW fun _ => ?_)
  refine WC.loop (σ := Nat × Nat) (fun s => s.1 ≤ 8 ∧ s.1 ≤ l.length ∧ s.2 < 128 ^ s.1 ∧ rdN s.1 s.2 (l.drop s.1) = R)
    (fun s => [(0, .val (.pointer (some ⟨r, 0, none⟩))), (3, .val (.int .i64 s.2)), (4, .val (.int .i64 ((128 ^ s.1 : Nat) : Int))), (5, .val (.int .i64 s.1))])
    (fun _ => [blk r [.string (ba l), .int .i64 0] 158, F]) (fun s => l.length - s.1) (0, 0) ⟨by simp, by simp, by simp, hF⟩ ⟨rfl, rfl, rfl, rfl, trivial⟩ II ?_
  rintro ⟨i, m⟩ ⟨hi8, hin, hm, hR⟩
  dsimp only at hi8 hin hm hR ⊢
  by_cases hlt : i < l.length
  rotate_left
  · rw [List.drop_eq_nil_of_le (by omega)] at hR
    repeat (first | refine GD ?_ | refine NW fun _ => ?_)
    refine WL.step rfl (OP.call (pre := [blk r [.string (ba l), .int .i64 0] 158]) rfl rfl (qwrong_ok r _ 0 2) PS rfl rfl ?_)
    rintro _ _ ⟨rfl, rfl⟩
    repeat (first | refine GD ?_ | refine NW fun _ => ?_)
    subst hR
    exact ret1 rfl ⟨_, ⟨rfl, rfl⟩, Imp.refl _⟩
  rw [List.drop_eq_getElem_cons hlt, rdN_cons] at hR
  have hby := byteAt_ba l i hlt
  generalize l[i] = x at *
  have hx8 : x.toNat < 256 := x.toNat_lt
  have hx128 : x.toNat % 128 < 128 := by omega
  have hm2 : m + x.toNat % 128 * 128 ^ i < 128 ^ (i + 1) := by
    have h1 : x.toNat % 128 * 128 ^ i ≤ 127 * 128 ^ i := Nat.mul_le_mul_right _ (by omega)
    rw [Nat.pow_succ]
    omega
  have hp8 := pow128 i hi8
  have h127 : x.toNat % 128 * 128 ^ i ≤ 127 * 128 ^ 8 := Nat.mul_le_mul (by omega) hp8
  have hval : (m : Int) + byteAt (ba l) i % 128 * ((128 ^ i : Nat) : Int) = ((m + x.toNat % 128 * 128 ^ i : Nat) : Int) := by
    rw [hby, Int.natCast_add, Int.natCast_mul]; rfl
  have hmul : byteAt (ba l) i % 128 * ((128 ^ i : Nat) : Int) = ((x.toNat % 128 * 128 ^ i : Nat) : Int) := by
    rw [hby, Int.natCast_mul]; rfl
  have hp1 : ((128 ^ i : Nat) : Int) * 128 = ((128 ^ (i + 1) : Nat) : Int) := by rw [Nat.pow_succ, Int.natCast_mul]; rfl
  have h16 : i = 8 → (15 < x.toNat ↔ 128 ≤ x.toNat ∨ widest < ((m + x.toNat % 128 * 128 ^ i : Nat) : Int)) := by
    intro h; subst h
    unfold widest
    constructor
    · intro h
      by_cases h2 : 128 ≤ x.toNat
      · exact .inl h2
      · right
        have : x.toNat % 128 = x.toNat := by omega
        rw [this]
        omega
    · rintro (h | h)
      · omega
      · omega
  have hu : ((128 ^ i : Nat) : Int) ≤ 72057594037927936 := by omega
  have hu0 : 0 ≤ ((128 ^ i : Nat) : Int) := by omega
  have hp7 : i ≠ 8 → 128 ^ i ≤ 128 ^ 7 := fun h => Nat.pow_le_pow_right (by decide) (by omega)
  generalize hpw : 128 ^ i = u at *
  have hxu : x.toNat % 128 * u ≤ 127 * 128 ^ 8 := h127
  by_cases h8 : i = 8 ∧ 15 < x.toNat
  · rw [if_pos (.inl ⟨h8.1, (h16 h8.1).1 h8.2⟩)] at hR
    obtain ⟨h81, h82⟩ := h8
    have hb15 : 15 < byteAt (ba l) i := by omega
    repeat (first | refine GD ?_ | refine NW fun _ => ?_)
    refine WL.step rfl (OP.call (pre := [blk r [.string (ba l), .int .i64 0] 158]) rfl rfl (qwrong_ok r _ 0 1) PS rfl rfl ?_)
    rintro _ _ ⟨rfl, rfl⟩
    repeat (first | refine GD ?_ | refine NW fun _ => ?_)
    subst hR
    exact ret1 rfl ⟨_, ⟨rfl, rfl⟩, Imp.refl _⟩
  have h8' : ¬ (i = 8 ∧ (128 ≤ x.toNat ∨ widest < ((m + x.toNat % 128 * u : Nat) : Int))) := fun h => h8 ⟨h.1, (h16 h.1).2 h.2⟩
  have hle15 : i = 8 → byteAt (ba l) i ≤ 15 := by intro h; omega
  by_cases hi : i = 8
  · have hb15 : ¬ 15 < byteAt (ba l) i := by omega
    have hc1 : x.toNat < 128 := by omega
    have hc128 : byteAt (ba l) i < 128 := by omega
    have hi0 : 0 < i := by omega
    by_cases hz : x.toNat = 0
    · rw [if_pos (.inr ⟨hi0, hz⟩)] at hR
      have hz0 : byteAt (ba l) i = 0 := by omega
      repeat (first | refine GD ?_ | refine NW fun _ => ?_)
      refine WL.step rfl (OP.call (pre := [blk r [.string (ba l), .int .i64 0] 158]) rfl rfl (qwrong_ok r _ 0 1) PS rfl rfl ?_)
      rintro _ _ ⟨rfl, rfl⟩
      repeat (first | refine GD ?_ | refine NW fun _ => ?_)
      subst hR
      exact ret1 rfl ⟨_, ⟨rfl, rfl⟩, Imp.refl _⟩
    · rw [if_neg (fun h => h.elim h8' (fun h => hz h.2)), if_pos hc1] at hR
      have hz0 : ¬ byteAt (ba l) i = 0 := by omega
      repeat (first | refine GD ?_ | refine NW fun _ => ?_)
      subst hR
      rw [hval]
      refine ret1 rfl ⟨[blk r [.string ((ba l).extract (i + 1) (ba l).size), .int .i64 0] 158], ⟨rfl, ?_⟩, Imp.refl _⟩
      rw [ba_drop]
      rfl
  · by_cases hc1 : x.toNat < 128
    · have hc128 : byteAt (ba l) i < 128 := by omega
      by_cases hi0 : 0 < i
      · by_cases hz : x.toNat = 0
        · rw [if_pos (.inr ⟨hi0, hz⟩)] at hR
          have hz0 : byteAt (ba l) i = 0 := by omega
          repeat (first | refine GD ?_ | refine NW fun _ => ?_)
          refine WL.step rfl (OP.call (pre := [blk r [.string (ba l), .int .i64 0] 158]) rfl rfl (qwrong_ok r _ 0 1) PS rfl rfl ?_)
          rintro _ _ ⟨rfl, rfl⟩
          repeat (first | refine GD ?_ | refine NW fun _ => ?_)
          subst hR
          exact ret1 rfl ⟨_, ⟨rfl, rfl⟩, Imp.refl _⟩
        · rw [if_neg (fun h => h.elim h8' (fun h => hz h.2)), if_pos hc1] at hR
          have hz0 : ¬ byteAt (ba l) i = 0 := by omega
          repeat (first | refine GD ?_ | refine NW fun _ => ?_)
          subst hR
          rw [hval]
          refine ret1 rfl ⟨[blk r [.string ((ba l).extract (i + 1) (ba l).size), .int .i64 0] 158], ⟨rfl, ?_⟩, Imp.refl _⟩
          rw [ba_drop]
          rfl
      · rw [if_neg (fun h => h.elim h8' (fun h => hi0 h.1)), if_pos hc1] at hR
        repeat (first | refine GD ?_ | refine NW fun _ => ?_)
        subst hR
        rw [hval]
        refine ret1 rfl ⟨[blk r [.string ((ba l).extract (i + 1) (ba l).size), .int .i64 0] 158], ⟨rfl, ?_⟩, Imp.refl _⟩
        rw [ba_drop]
        rfl
    · have hc128 : ¬ byteAt (ba l) i < 128 := by omega
      have hp7 := hp7 hi
      rw [if_neg (fun h => h.elim h8' (fun h => by omega)), if_neg hc1] at hR
      repeat (first | refine GD ?_ | refine NW fun _ => ?_)
      exact ⟨(i + 1, m + x.toNat % 128 * u), ⟨by dsimp only; omega, by dsimp only; omega, hm2, hR⟩, by dsimp only; omega, ⟨rfl, by rw [hval]; rfl, by rw [hp1]; rfl, rfl, trivial⟩, Imp.refl _⟩
end Go.Proofs.YteednjcoapmkaaaGreatDoor
/- Contracts of functions of the given program, and plain laws on what they compute: parts of the proofs of laws. -/

namespace Go.Proofs.YteednjcoapmkaaaGreatDoor
open Go Go.GL

set_option maxHeartbeats 1000000 in
set_option maxRecDepth 10000 in
theorem qtextR_ok (r : Nat) (s : PR) (hl : s.1.length < 1000000) (most : Int) :
    Triple G 87 [.pointer (some ⟨r, 0, none⟩), .int .i64 most] [qrd r s] (fun v M => v = .string (textR most s).1 ∧ M = [qrd r (textR most s).2]) := by
  refine Triple.enter Tryz.func87 rfl (by decide) rfl Tryz.ntmps87 rfl (fun F => ?_)
  repeat (first | refine GO ?_ | refine NW fun _ => ?_)
  refine WL.step rfl (OP.call (pre := [qrd r s]) rfl rfl (qnum_ok r s hl) PS rfl rfl ?_)
  rintro _ _ ⟨rfl, rfl⟩
  have hbd := numR_bd s
  unfold textR
  generalize numR s = y at *
  obtain ⟨x, l, e⟩ := y
  dsimp only at hbd ⊢
  have hsz := ba_size l
  unfold qrd
  by_cases he : e = 0
  rotate_left
  · rw [if_pos he]
    repeat (first | refine GD ?_ | refine NW fun _ => ?_)
    exact ret1 rfl ⟨_, ⟨rfl, rfl⟩, Imp.refl _⟩
  subst he
  rw [if_neg (by simp)]
  by_cases h1 : most < x
  · rw [if_pos h1]
    repeat (first | refine GD ?_ | refine NW fun _ => ?_)
    refine WL.step rfl (OP.call (pre := [blk r [.string (ba l), .int .i64 0] 158]) rfl rfl (qwrong_ok r _ 0 1) PS rfl rfl ?_)
    rintro _ _ ⟨rfl, rfl⟩
    repeat (first | refine GD ?_ | refine NW fun _ => ?_)
    exact ret1 rfl ⟨_, ⟨rfl, rfl⟩, Imp.refl _⟩
  rw [if_neg h1]
  by_cases h2 : (l.length : Int) < x
  · rw [if_pos h2]
    repeat (first | refine GD ?_ | refine NW fun _ => ?_)
    refine WL.step rfl (OP.call (pre := [blk r [.string (ba l), .int .i64 0] 158]) rfl rfl (qwrong_ok r _ 0 2) PS rfl rfl ?_)
    rintro _ _ ⟨rfl, rfl⟩
    repeat (first | refine GD ?_ | refine NW fun _ => ?_)
    exact ret1 rfl ⟨_, ⟨rfl, rfl⟩, Imp.refl _⟩
  rw [if_neg h2]
  repeat (first | refine GD ?_ | refine NW fun _ => ?_)
  rw [ba_take, ba_drop]
  exact ret1 rfl ⟨_, ⟨rfl, rfl⟩, Imp.refl _⟩
def OpenQ (l : List UInt8) : Value := if OpenOk l then .tuple #[.string (ba (l.take (l.length - 4))), .bool true] else .tuple #[.string ⟨#[]⟩, .bool false]
set_option maxHeartbeats 1000000 in
set_option maxRecDepth 10000 in
theorem qopen_ro (l : List UInt8) (hs : l.length < 100000) : RO G 84 [.string (ba l)] (fun _ => True) (OpenQ l) := by
  refine RO.enter Tryz.func84 rfl (by decide) rfl Tryz.ntmps84 rfl (fun A hu hA => ?_) (fun _ _ _ h => h)
  have hsz := ba_size l
  unfold OpenQ
  by_cases h4 : l.length < 4
  · rw [if_neg (fun h => by have := h.1; omega)]
    repeat (first | refine GD ?_ | refine NW fun _ => ?_)
    exact ret2 rfl rfl ⟨rfl, MM⟩
  have hcut : (ba l).extract 0 ((ba l).size - 4 : Int).toNat = ba (l.take (l.length - 4)) := by
    rw [ba_take, hsz]; congr 2; omega
  repeat (first | refine GD ?_ | refine NW fun _ => ?_)
  refine WL.guardT rfl rfl rfl rfl (OP.pure (nw := false) rfl (by first | exact trivial | (simp only [Holds]; omega) | (simp [Holds]; done) | (simp [Holds]; omega)) rfl rfl ?_)
  repeat (first | refine GD ?_ | refine NW fun _ => ?_)
  rw [hcut]
  refine WL.guardT rfl rfl rfl rfl (OP.callRO rfl rfl (qseal_ro (l.take (l.length - 4)) (by rw [List.length_take]; omega)) (fun _ _ => trivial) rfl rfl ?_)
  have hiff : ba (l.take (l.length - 4) ++ tailM (l.take (l.length - 4))) = ba l ↔ OpenOk l := by
    constructor
    · intro h
      have h1 := ba_inj h
      refine ⟨by omega, ?_⟩
      have h2 : l.take (l.length - 4) ++ tailM (l.take (l.length - 4)) = l.take (l.length - 4) ++ l.drop (l.length - 4) := by rw [h1, List.take_append_drop]
      exact List.append_cancel_left h2
    · intro h
      rw [h.2, List.take_append_drop]
  by_cases ho : OpenOk l
  · rw [if_pos ho]
    have he := hiff.2 ho
    repeat (first | refine GD ?_ | refine NW fun _ => ?_)
    rw [hcut]
    exact ret2 rfl rfl ⟨rfl, MM⟩
  · rw [if_neg ho]
    have he : ¬ ba (l.take (l.length - 4) ++ tailM (l.take (l.length - 4))) = ba l := fun h => ho (hiff.1 h)
    repeat (first | refine GD ?_ | refine NW fun _ => ?_)
    exact ret2 rfl rfl ⟨rfl, MM⟩
def DecQ (l : List UInt8) : Value := match decR l with
  | .ok (g, r) => .tuple #[.int .i64 g, .agg (encR r).toArray, .int .i64 0]
  | .error c => .tuple #[.int .i64 0, .agg (encR rec0).toArray, .int .i64 c]
set_option maxHeartbeats 4000000 in
set_option maxRecDepth 10000 in
theorem qdecode_ro (l : List UInt8) (hs : l.length < 100000) : RO G 56 [.string (ba l)] (fun _ => True) (DecQ l) := by
  refine RO.enter Tryz.func56 rfl (by decide) rfl Tryz.ntmps56 rfl (fun A hu hA => ?_) (fun _ _ _ h => h)
  have hsz := ba_size l
  repeat (first | refine GO ?_ | refine NW fun _ => ?_)
  refine WL.step rfl (OP.callRO rfl rfl (qopen_ro l hs) (fun _ _ => trivial) rfl rfl ?_)
  unfold OpenQ
  by_cases ho : OpenOk l
  rotate_left
  · rw [if_neg ho]
    have hdec : decR l = .error 4 := by unfold decR; rw [if_neg (fun h => ho h.1)]
    repeat (first | refine GD ?_ | refine NW fun _ => ?_)
    refine RD 2 4 (_) ?_
    refine VV 0 ?_
    refine WP 1 ?_
    refine WH.only 2 rfl rfl (by kernel_rfl) rfl (OP.store rfl rfl rfl rfl rfl rfl rfl UP rfl ⟨(fun h => nomatch h), ?_⟩)
    refine WP 3 ?_
    refine DN ?_
    repeat (first | refine GD ?_ | refine NW fun _ => ?_)
    refine ret3c rfl rfl rfl rfl rfl rfl (HasCut.ent (n := 5) HC).1 ⟨?_, MM⟩
    unfold DecQ
    rw [hdec]
    rfl
  rw [if_pos ho]
  by_cases h64 : l.length = 64
  rotate_left
  · have hdec : decR l = .error 4 := by unfold decR; rw [if_neg (fun h => h64 h.2)]
    repeat (first | refine GD ?_ | refine NW fun _ => ?_)
    refine RD 2 4 (_) ?_
    refine VV 0 ?_
    refine WP 1 ?_
    refine WH.only 2 rfl rfl (by kernel_rfl) rfl (OP.store rfl rfl rfl rfl rfl rfl rfl UP rfl ⟨(fun h => nomatch h), ?_⟩)
    refine WP 3 ?_
    refine DN ?_
    repeat (first | refine GD ?_ | refine NW fun _ => ?_)
    refine ret3c rfl rfl rfl rfl rfl rfl (HasCut.ent (n := 5) HC).1 ⟨?_, MM⟩
    unfold DecQ
    rw [hdec]
    rfl
  have e60 : l.take (l.length - 4) = l.take 60 := by rw [h64]
  rw [e60]
  have hl60 : (l.take 60).length = 60 := by rw [List.length_take]; omega
  have hdR : decR l = if (readM (l.take 60, 0)).2.2 = 0 ∧ (RightR (readM (l.take 60, 0)).1.2 ∧ (0 ≤ (readM (l.take 60, 0)).1.1 ∧ (readM (l.take 60, 0)).1.1 ≤ widest)) ∧ sectorM (bodyM (readM (l.take 60, 0)).1.1 (readM (l.take 60, 0)).1.2) = l then .ok (readM (l.take 60, 0)).1 else .error 1 := by
    unfold decR; rw [if_pos ⟨ho, by omega⟩]
  have hsz2 := readM_size (l.take 60, 0)
  unfold readM at hdR hsz2
  obtain ⟨s, hs0⟩ : ∃ s : PR, s = (l.take 60, 0) := ⟨_, rfl⟩
  have hsl : s.1.length = 60 := by rw [hs0]; exact hl60
  have hq : ∀ r, blk r [.string (ba (l.take 60)), .int .i64 0] 158 = qrd r s := fun r => by rw [hs0]; rfl
  rw [← hs0] at hdR hsz2
  have b1 := numR_bd s
  have w1 := numR_wide s
  have b2 := numR_bd (numR s).2
  have b3 := numR_bd (numR (numR s).2).2
  have b4 := numR_bd (numR (numR (numR s).2).2).2
  repeat (first | refine GD ?_ | refine NW fun _ => ?_)
  rename_i p3 p5 pr
  rw [hq pr]
  refine WL.step rfl (OP.call (pre := [qrd pr s]) rfl rfl (qnum_ok pr s (by omega)) PS rfl rfl ?_)
  rintro _ _ ⟨rfl, rfl⟩
  repeat (first | refine GO ?_ | refine NW fun _ => ?_)
  refine WL.step rfl (OP.call (pre := [qrd pr (numR s).2]) rfl rfl (qnum_ok pr (numR s).2 (by omega)) PS rfl rfl ?_)
  rintro _ _ ⟨rfl, rfl⟩
  repeat (first | refine GO ?_ | refine NW fun _ => ?_)
  refine WL.step rfl (OP.call (pre := [qrd pr (numR (numR s).2).2]) rfl rfl (qnum_ok pr (numR (numR s).2).2 (by omega)) PS rfl rfl ?_)
  rintro _ _ ⟨rfl, rfl⟩
  generalize numR s = y1 at *
  generalize numR y1.2 = y2 at *
  generalize numR y2.2 = y3 at *
  by_cases hk : y3.1 = 1
  · rw [if_pos hk] at hdR hsz2
    repeat (first | refine GD ?_ | refine NW fun _ => ?_)
    refine WL.step rfl (OP.call (pre := [qrd pr y3.2]) rfl rfl (qnum_ok pr y3.2 (by omega)) PS rfl rfl ?_)
    rintro _ _ ⟨rfl, rfl⟩
    generalize numR y3.2 = y4 at *
    repeat (first | refine GD ?_ | refine NW fun _ => ?_)
    refine WL.step rfl (OP.call (pre := [qrd pr y4.2]) rfl rfl (qtextR_ok pr y4.2 (by omega) 16) PS rfl rfl ?_)
    rintro _ _ ⟨rfl, rfl⟩
    generalize textR 16 y4.2 = y5 at *
    unfold qrd
    dsimp only at hdR hsz2
    by_cases he : y5.2.2 = 0
    rotate_left
    · have hdec : decR l = .error 1 := by rw [hdR, if_neg (fun h => he h.1)]
      repeat (first | refine GD ?_ | refine NW fun _ => ?_)
      refine RD 2 4 (_) ?_
      refine VV 0 ?_
      refine WP 1 ?_
      refine WH.only 2 rfl rfl (by kernel_rfl) rfl (OP.store rfl rfl rfl rfl rfl rfl rfl UP rfl ⟨(fun h => nomatch h), ?_⟩)
      refine WP 3 ?_
      refine DN ?_
      repeat (first | refine GD ?_ | refine NW fun _ => ?_)
      refine ret3c rfl rfl rfl rfl rfl rfl (HasCut.ent (n := 5) HC).1 ⟨?_, MM⟩
      unfold DecQ
      rw [hdec]
      rfl
    have hr1 := qright_ro (y2.1, y3.1, y4.1, y5.1, 0) (by dsimp only; omega)
    repeat (first | refine GD ?_ | refine NW fun _ => ?_)
    refine WL.guardT rfl rfl rfl rfl (OP.callRO rfl rfl hr1 (fun _ _ => trivial) rfl rfl ?_)
    by_cases hr : RightR (y2.1, y3.1, y4.1, y5.1, 0)
    rotate_left
    · have hdec : decR l = .error 1 := by rw [hdR, if_neg (fun h => hr h.2.1.1)]
      rw [decide_eq_false hr]
      repeat (first | refine GD ?_ | refine NW fun _ => ?_)
      refine RD 2 4 (_) ?_
      refine VV 0 ?_
      refine WP 1 ?_
      refine WH.only 2 rfl rfl (by kernel_rfl) rfl (OP.store rfl rfl rfl rfl rfl rfl rfl UP rfl ⟨(fun h => nomatch h), ?_⟩)
      refine WP 3 ?_
      refine DN ?_
      repeat (first | refine GD ?_ | refine NW fun _ => ?_)
      refine ret3c rfl rfl rfl rfl rfl rfl (HasCut.ent (n := 5) HC).1 ⟨?_, MM⟩
      unfold DecQ
      rw [hdec]
      rfl
    rw [decide_eq_true hr]
    repeat (first | refine GD ?_ | refine NW fun _ => ?_)
    refine WL.guardT rfl rfl rfl rfl (OP.callRO rfl rfl (qbytes_ro y1.1 (y2.1, y3.1, y4.1, y5.1, 0) hr) (fun _ _ => trivial) rfl rfl ?_)
    by_cases hb : sectorM (bodyM y1.1 (y2.1, y3.1, y4.1, y5.1, 0)) = l
    rotate_left
    · have hdec : decR l = .error 1 := by rw [hdR, if_neg (fun h => hb h.2.2)]
      have hbb : ¬ ba (sectorM (bodyM y1.1 (y2.1, y3.1, y4.1, y5.1, 0))) = ba l := fun h => hb (ba_inj h)
      repeat (first | refine GD ?_ | refine NW fun _ => ?_)
      refine RD 2 4 (_) ?_
      refine VV 0 ?_
      refine WP 1 ?_
      refine WH.only 2 rfl rfl (by kernel_rfl) rfl (OP.store rfl rfl rfl rfl rfl rfl rfl UP rfl ⟨(fun h => nomatch h), ?_⟩)
      refine WP 3 ?_
      refine DN ?_
      repeat (first | refine GD ?_ | refine NW fun _ => ?_)
      refine ret3c rfl rfl rfl rfl rfl rfl (HasCut.ent (n := 5) HC).1 ⟨?_, MM⟩
      unfold DecQ
      rw [hdec]
      rfl
    have hbb : ba (sectorM (bodyM y1.1 (y2.1, y3.1, y4.1, y5.1, 0))) = ba l := congrArg ba hb
    have hdec : decR l = .ok (y1.1, (y2.1, y3.1, y4.1, y5.1, 0)) := by rw [hdR, if_pos ⟨he, ⟨hr, w1⟩, hb⟩]
    repeat (first | refine GD ?_ | refine NW fun _ => ?_)
    refine RD 3 5 (_) ?_
    refine WP 0 ?_
    refine VV 1 ?_
    refine WP 2 ?_
    refine WH.only 3 rfl rfl (by kernel_rfl) rfl (OP.store rfl rfl rfl rfl rfl rfl rfl UP rfl ⟨(fun h => nomatch h), ?_⟩)
    refine WP 4 ?_
    refine DN ?_
    repeat (first | refine GD ?_ | refine NW fun _ => ?_)
    refine ret3c rfl rfl rfl rfl rfl rfl (HasCut.ent (n := 5) HC).1 ⟨?_, MM⟩
    unfold DecQ
    rw [hdec]
    rfl
  · rw [if_neg hk] at hdR hsz2
    repeat (first | refine GD ?_ | refine NW fun _ => ?_)
    refine WL.step rfl (OP.call (pre := [qrd pr y3.2]) rfl rfl (qnum_ok pr y3.2 (by omega)) PS rfl rfl ?_)
    rintro _ _ ⟨rfl, rfl⟩
    generalize numR y3.2 = y4 at *
    unfold qrd
    dsimp only at hdR hsz2
    by_cases he : y4.2.2 = 0
    rotate_left
    · have hdec : decR l = .error 1 := by rw [hdR, if_neg (fun h => he h.1)]
      repeat (first | refine GD ?_ | refine NW fun _ => ?_)
      refine RD 2 4 (_) ?_
      refine VV 0 ?_
      refine WP 1 ?_
      refine WH.only 2 rfl rfl (by kernel_rfl) rfl (OP.store rfl rfl rfl rfl rfl rfl rfl UP rfl ⟨(fun h => nomatch h), ?_⟩)
      refine WP 3 ?_
      refine DN ?_
      repeat (first | refine GD ?_ | refine NW fun _ => ?_)
      refine ret3c rfl rfl rfl rfl rfl rfl (HasCut.ent (n := 5) HC).1 ⟨?_, MM⟩
      unfold DecQ
      rw [hdec]
      rfl
    have hr1 := qright_ro (y2.1, y3.1, 0, ⟨#[]⟩, y4.1) (by dsimp only; omega)
    repeat (first | refine GD ?_ | refine NW fun _ => ?_)
    refine WL.guardT rfl rfl rfl rfl (OP.callRO rfl rfl hr1 (fun _ _ => trivial) rfl rfl ?_)
    by_cases hr : RightR (y2.1, y3.1, 0, ⟨#[]⟩, y4.1)
    rotate_left
    · have hdec : decR l = .error 1 := by rw [hdR, if_neg (fun h => hr h.2.1.1)]
      rw [decide_eq_false hr]
      repeat (first | refine GD ?_ | refine NW fun _ => ?_)
      refine RD 2 4 (_) ?_
      refine VV 0 ?_
      refine WP 1 ?_
      refine WH.only 2 rfl rfl (by kernel_rfl) rfl (OP.store rfl rfl rfl rfl rfl rfl rfl UP rfl ⟨(fun h => nomatch h), ?_⟩)
      refine WP 3 ?_
      refine DN ?_
      repeat (first | refine GD ?_ | refine NW fun _ => ?_)
      refine ret3c rfl rfl rfl rfl rfl rfl (HasCut.ent (n := 5) HC).1 ⟨?_, MM⟩
      unfold DecQ
      rw [hdec]
      rfl
    rw [decide_eq_true hr]
    repeat (first | refine GD ?_ | refine NW fun _ => ?_)
    refine WL.guardT rfl rfl rfl rfl (OP.callRO rfl rfl (qbytes_ro y1.1 (y2.1, y3.1, 0, ⟨#[]⟩, y4.1) hr) (fun _ _ => trivial) rfl rfl ?_)
    by_cases hb : sectorM (bodyM y1.1 (y2.1, y3.1, 0, ⟨#[]⟩, y4.1)) = l
    rotate_left
    · have hdec : decR l = .error 1 := by rw [hdR, if_neg (fun h => hb h.2.2)]
      have hbb : ¬ ba (sectorM (bodyM y1.1 (y2.1, y3.1, 0, ⟨#[]⟩, y4.1))) = ba l := fun h => hb (ba_inj h)
      repeat (first | refine GD ?_ | refine NW fun _ => ?_)
      refine RD 2 4 (_) ?_
      refine VV 0 ?_
      refine WP 1 ?_
      refine WH.only 2 rfl rfl (by kernel_rfl) rfl (OP.store rfl rfl rfl rfl rfl rfl rfl UP rfl ⟨(fun h => nomatch h), ?_⟩)
      refine WP 3 ?_
      refine DN ?_
      repeat (first | refine GD ?_ | refine NW fun _ => ?_)
      refine ret3c rfl rfl rfl rfl rfl rfl (HasCut.ent (n := 5) HC).1 ⟨?_, MM⟩
      unfold DecQ
      rw [hdec]
      rfl
    have hbb : ba (sectorM (bodyM y1.1 (y2.1, y3.1, 0, ⟨#[]⟩, y4.1))) = ba l := congrArg ba hb
    have hdec : decR l = .ok (y1.1, (y2.1, y3.1, 0, ⟨#[]⟩, y4.1)) := by rw [hdR, if_pos ⟨he, ⟨hr, w1⟩, hb⟩]
    repeat (first | refine GD ?_ | refine NW fun _ => ?_)
    refine RD 3 5 (_) ?_
    refine WP 0 ?_
    refine VV 1 ?_
    refine WP 2 ?_
    refine WH.only 3 rfl rfl (by kernel_rfl) rfl (OP.store rfl rfl rfl rfl rfl rfl rfl UP rfl ⟨(fun h => nomatch h), ?_⟩)
    refine WP 4 ?_
    refine DN ?_
    repeat (first | refine GD ?_ | refine NW fun _ => ?_)
    refine ret3c rfl rfl rfl rfl rfl rfl (HasCut.ent (n := 5) HC).1 ⟨?_, MM⟩
    unfold DecQ
    rw [hdec]
    rfl
end Go.Proofs.YteednjcoapmkaaaGreatDoor
/- Contracts of functions of the given program, and plain laws on what they compute: parts of the proofs of laws. -/

namespace Go.Proofs.YteednjcoapmkaaaGreatDoor
open Go Go.GL

def EncQ (gen : Int) (r : Rec) : Value := if RightR r ∧ (0 ≤ gen ∧ gen ≤ widest) then .tuple #[.string (ba (sectorM (bodyM gen r))), .int .i64 0] else .tuple #[.string ⟨#[]⟩, .int .i64 1]
set_option maxHeartbeats 1000000 in
set_option maxRecDepth 10000 in
theorem qencode_ro (gen : Int) (r : Rec) (hsz : r.2.2.2.1.size < 1000000) : RO G 62 [.int .i64 gen, .agg (encR r).toArray] (fun _ => True) (EncQ gen r) := by
  refine RO.enter Tryz.func62 rfl (by decide) rfl Tryz.ntmps62 rfl (fun A hu hA => ?_) (fun _ _ _ h => h)
  have hl : (encR r).length = 5 := rfl
  have hr0 := qright_ro r hsz
  unfold EncQ widest
  repeat (first | refine GO ?_ | refine NW fun _ => ?_)
  refine WL.step rfl (OP.callRO rfl rfl hr0 (fun _ _ => trivial) rfl rfl ?_)
  by_cases hr : RightR r
  rotate_left
  · rw [decide_eq_false hr, if_neg (fun h => hr h.1)]
    repeat (first | refine GD ?_ | refine NW fun _ => ?_)
    exact ret2 rfl rfl ⟨rfl, MM⟩
  rw [decide_eq_true hr]
  by_cases hg0 : gen < 0
  · rw [if_neg (by omega)]
    repeat (first | refine GD ?_ | refine NW fun _ => ?_)
    exact ret2 rfl rfl ⟨rfl, MM⟩
  by_cases hg1 : 1152921504606846975 < gen
  · rw [if_neg (by omega)]
    repeat (first | refine GD ?_ | refine NW fun _ => ?_)
    exact ret2 rfl rfl ⟨rfl, MM⟩
  rw [if_pos ⟨hr, by omega, by omega⟩]
  repeat (first | refine GD ?_ | refine NW fun _ => ?_)
  refine WL.step rfl (OP.callRO rfl rfl (qbytes_ro gen r hr) (fun _ _ => trivial) rfl rfl ?_)
  repeat (first | refine GD ?_ | refine NW fun _ => ?_)
  exact ret2 rfl rfl ⟨rfl, MM⟩
end Go.Proofs.YteednjcoapmkaaaGreatDoor
/- Contracts of functions of the given program, and plain laws on what they compute: parts of the proofs of laws. -/
namespace Go.Proofs.YteednjcoapmkaaaGreatDoor
open Go Go.GL

/-- a journal's head: its turn, the first record's number, the generation, the low one -/
structure Hd where
  turn : Int
  first : Int
  gen : Int
  low : Int
def headB (h : Hd) : List UInt8 := numB (clampN h.turn) ++ numB (clampN h.first) ++ numB (clampN h.gen) ++ numB (clampN h.low)
def headS (h : Hd) : List UInt8 := sectorM (headB h)
theorem headB_len (h : Hd) : (headB h).length ≤ 60 := by
  have h1 := numB_nine h.turn
  have h2 := numB_nine h.first
  have h3 := numB_nine h.gen
  have h4 := numB_nine h.low
  unfold headB
  simp only [List.length_append]
  omega
theorem headS_len (h : Hd) : (headS h).length = 64 := sectorM_len (headB_len h)
/-- four numbers that are read -/
def hd4 (s : PR) : Hd × PR :=
  (⟨(numR s).1, (numR (numR s).2).1, (numR (numR (numR s).2).2).1, (numR (numR (numR (numR s).2).2).2).1⟩, (numR (numR (numR (numR s).2).2).2).2)
def HdOk (b : List UInt8) (slot : Int) (h : Hd) (e : Int) : Prop := e = 0 ∧ h.low ≤ h.gen ∧ 0 < h.first ∧ h.turn % 2 = slot ∧ headS h = b
instance (b : List UInt8) (slot : Int) (h : Hd) (e : Int) : Decidable (HdOk b slot h e) := by unfold HdOk; infer_instance
/-- the head that a sector tells -/
def headOf (b : List UInt8) (slot : Int) : Option Hd :=
  if OpenOk b ∧ HdOk b slot (hd4 (b.take (b.length - 4), 0)).1 (hd4 (b.take (b.length - 4), 0)).2.2 then some (hd4 (b.take (b.length - 4), 0)).1 else none
def hd0 : Hd := ⟨0, 1, 0, 0⟩
/-- the head that counts; none: the heads are spoilt -/
def newestM (a b : List UInt8) : Option Hd :=
  match headOf a 0, headOf b 1 with
  | some x, some y => if x.turn < y.turn then some y else some x
  | some x, none => some x
  | none, some y => some y
  | none, none => if a = zero64 ∧ b = zero64 then some hd0 else none
/-- a record that is held, and its generation -/
abbrev Held := Int × Rec
def posM (ring : Nat) (seq : Int) : Nat := 2 + (seq % ring).toNat
/-- is the record the next one? -/
def fits (b : List UInt8) (seq low gen : Int) : Option Held :=
  match decR b with
  | .ok (g, r) => if r.1 = seq ∧ low ≤ g ∧ g ≤ gen then some (g, r) else none
  | .error _ => none
def scanF (D : Dsk) (ring : Nat) (h : Hd) : Nat → List Held → Int → List Held
  | 0, l, _ => l
  | k + 1, l, low => match fits (D.cur (posM ring (h.first + l.length))) (h.first + l.length) low h.gen with
    | some x => scanF D ring h k (l ++ [x]) x.1
    | none => l
def scanM (D : Dsk) (ring : Nat) (h : Hd) : List Held := scanF D ring h ring [] h.low
/-- a journal: its ring, its head, what it holds -/
structure Jrn where
  ring : Nat
  hd : Hd
  held : List Held
def Jrn.next (J : Jrn) : Int := J.hd.first + J.held.length
def Hd.up (h : Hd) : Hd := { h with turn := h.turn + 1 }
/-- a head is saved -/
def saveM (D : Dsk) (h : Hd) : Dsk := (D.put (h.turn % 2).toNat (headS h)).flush
def openM (D : Dsk) (ring : Int) : Except Int (Jrn × Dsk) :=
  if ring < 1 ∨ 512 < ring ∨ (D.S.length : Int) < 2 + ring then .error 1
  else match newestM (D.cur 0) (D.cur 1) with
    | none => .error 4
    | some h => .ok (⟨ring.toNat, { h with gen := h.gen + 1, turn := h.turn + 1 }, scanM D ring.toNat h⟩, saveM D { h with gen := h.gen + 1, turn := h.turn + 1 })
def setSeq (r : Rec) (n : Int) : Rec := (n, r.2)
/-- Append: the error's numbers, outermost first; or the record is put behind -/
def appendM (J : Jrn) (D : Dsk) (r : Rec) : Except Int (Jrn × Dsk) :=
  if J.held.length = J.ring then .error 6
  else if RightR (setSeq r J.next) ∧ (0 ≤ J.hd.gen ∧ J.hd.gen ≤ widest) then
    .ok ({ J with held := J.held ++ [(J.hd.gen, setSeq r J.next)] }, D.put (posM J.ring J.next) (sectorM (bodyM J.hd.gen (setSeq r J.next))))
  else .error 1
def trimM (J : Jrn) (D : Dsk) (k : Int) : Except Int (Jrn × Dsk) :=
  if k < 0 ∨ (J.held.length : Int) < k then .error 1
  else if k = 0 then .ok (J, D)
  else .ok ({ J with hd := { J.hd with turn := J.hd.turn + 1, first := J.hd.first + k, low := (J.held.getD (k.toNat - 1) (0, rec0)).1 }, held := J.held.drop k.toNat },
    saveM D.flush { J.hd with turn := J.hd.turn + 1, first := J.hd.first + k, low := (J.held.getD (k.toNat - 1) (0, rec0)).1 })
end Go.Proofs.YteednjcoapmkaaaGreatDoor
