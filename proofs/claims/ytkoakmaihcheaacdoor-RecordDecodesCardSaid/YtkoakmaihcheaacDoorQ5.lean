/- Contracts of functions of the given program, and plain laws on what they compute: parts of the proofs of laws. -/
import Derived.Test.YtkoakmaihcheaacDoorGLt
import Derived.Test.YtkoakmaihcheaacDoorR11
import Derived.Test.YtkoakmaihcheaacDoorQ2
import Derived.Test.YtkoakmaihcheaacDoorGLu

namespace Go.Proofs.YtkoakmaihcheaacDoor
open Go Go.GL

/-- the reference's reader, as it stands: what is left, what was wrong -/
def qrd (r : Nat) (s : PR) : Assn := blk r [.string (ba s.1), .int .i64 s.2] 84
theorem extractB (b : ByteArray) (i n : Nat) : b.extract i (i + n) = ba ((b.data.toList.drop i).take n) := by
  cases b with | mk d =>
  have : (ByteArray.mk d).extract i (i + n) = ⟨d.extract i (i + n)⟩ := by
    apply ByteArray.ext
    simp
  rw [this]
  unfold ba
  congr 1
  apply Array.toList_inj.1
  simp

theorem ba_take (l : List UInt8) (n : Nat) : (ba l).extract 0 n = ba (l.take n) := by
  have := extractB (ba l) 0 n
  simpa [ba] using this
theorem ba_drop (l : List UInt8) (i : Nat) : (ba l).extract i (ba l).size = ba (l.drop i) := by
  by_cases h : i ≤ l.length
  · have := extractB (ba l) i (l.length - i)
    rw [show i + (l.length - i) = (ba l).size by rw [ba_size]; omega] at this
    rw [this]
    have h2 : (ba l).data.toList = l := by simp [ba]
    rw [h2, List.take_of_length_le (by rw [List.length_drop]; exact Nat.le_refl _)]
  · have h1 : l.drop i = [] := List.drop_eq_nil_of_le (by omega)
    rw [h1]
    have : (ba l).size ≤ i := by rw [ba_size]; omega
    apply ByteArray.ext
    apply Array.ext'
    have h3 : ((ba l).extract i (ba l).size).size = 0 := by rw [ByteArray.size_extract]; omega
    have h4 : ((ba l).extract i (ba l).size).data.toList.length = 0 := by simpa using h3
    rw [List.length_eq_zero_iff.1 h4]
    rfl
set_option maxRecDepth 10000 in
theorem qwrong_ok (r : Nat) (x : Value) (e c : Int) : Triple G 56 [.pointer (some ⟨r, 0, none⟩), .int .i64 c] [blk r [x, .int .i64 e] 84] (fun v M => v = .tuple #[] ∧ M = [qrd r ([], c)]) := by
  refine Triple.enter Tryd.func56 rfl (by decide) rfl Tryd.ntmps56 rfl (fun F => ?_)
  repeat (first | refine GO ?_ | refine NW fun _ => ?_)
  exact ret0n ⟨_, ⟨rfl, rfl⟩, Imp.refl _⟩
set_option maxHeartbeats 4000000 in
set_option maxRecDepth 10000 in
theorem qnum_ok (r : Nat) (s : PR) (hl : s.1.length < 1000000) :
    Triple G 33 [.pointer (some ⟨r, 0, none⟩)] [qrd r s] (fun v M => v = .int .i64 (numR s).1 ∧ M = [qrd r (numR s).2]) := by
  refine Triple.enter Tryd.func33 rfl (by decide) rfl Tryd.ntmps33 rfl (fun F => ?_)
  obtain ⟨l, e⟩ := s
  dsimp only at hl ⊢
  unfold qrd
  by_cases he : e = 0
  rotate_left
  · rw [numR_err he]
    repeat (first | refine GD ?_ | refine NW fun _ => ?_)
    exact ret1 rfl ⟨_, ⟨rfl, rfl⟩, Imp.refl _⟩
  subst he
  have hsz := ba_size l
  rw [numR_zero]
  generalize hF : rdN 0 0 l = R
  repeat (first | refine GD ?_ | refine NW fun _ => ?_)
  refine WC.loop (σ := Nat × Nat) (fun s => s.1 ≤ 8 ∧ s.1 ≤ l.length ∧ s.2 < 128 ^ s.1 ∧ rdN s.1 s.2 (l.drop s.1) = R)
    (fun s => [(0, .val (.pointer (some ⟨r, 0, none⟩))), (3, .val (.int .i64 s.2)), (4, .val (.int .i64 ((128 ^ s.1 : Nat) : Int))), (5, .val (.int .i64 s.1))])
    (fun _ => [blk r [.string (ba l), .int .i64 0] 84, F]) (fun s => l.length - s.1) (0, 0) ⟨by simp, by simp, by simp, hF⟩ ⟨rfl, rfl, rfl, rfl, trivial⟩ II ?_
  rintro ⟨i, m⟩ ⟨hi8, hin, hm, hR⟩
  dsimp only at hi8 hin hm hR ⊢
  by_cases hlt : i < l.length
  rotate_left
  · rw [List.drop_eq_nil_of_le (by omega)] at hR
    repeat (first | refine GD ?_ | refine NW fun _ => ?_)
    refine WL.step rfl (OP.call (pre := [blk r [.string (ba l), .int .i64 0] 84]) rfl rfl (qwrong_ok r _ 0 2) PS rfl rfl ?_)
    rintro _ _ ⟨rfl, rfl⟩
    repeat (first | refine GD ?_ | refine NW fun _ => ?_)
    subst hR
    exact ret1 rfl ⟨_, ⟨rfl, rfl⟩, Imp.refl _⟩
  rw [List.drop_eq_getElem_cons hlt, rdN_cons] at hR
  have hby := byteAt_ba l i hlt
  generalize l[i] = x at *
  have hx8 : x.toNat < 256 := x.toNat_lt
  have hx128 : x.toNat % 128 < 128 := by omega
  have hm2 : m + x.toNat % 128 * 128 ^ i < 128 ^ (i + 1) := by
    have h1 : x.toNat % 128 * 128 ^ i ≤ 127 * 128 ^ i := Nat.mul_le_mul_right _ (by omega)
    rw [Nat.pow_succ]
    omega
  have hp8 := pow128 i hi8
  have h127 : x.toNat % 128 * 128 ^ i ≤ 127 * 128 ^ 8 := Nat.mul_le_mul (by omega) hp8
  have hval : (m : Int) + byteAt (ba l) i % 128 * ((128 ^ i : Nat) : Int) = ((m + x.toNat % 128 * 128 ^ i : Nat) : Int) := by
    rw [hby, Int.natCast_add, Int.natCast_mul]; rfl
  have hmul : byteAt (ba l) i % 128 * ((128 ^ i : Nat) : Int) = ((x.toNat % 128 * 128 ^ i : Nat) : Int) := by
    rw [hby, Int.natCast_mul]; rfl
  have hp1 : ((128 ^ i : Nat) : Int) * 128 = ((128 ^ (i + 1) : Nat) : Int) := by rw [Nat.pow_succ, Int.natCast_mul]; rfl
  have h16 : i = 8 → (15 < x.toNat ↔ 128 ≤ x.toNat ∨ widest < ((m + x.toNat % 128 * 128 ^ i : Nat) : Int)) := by
    intro h; subst h
    unfold widest
    constructor
    · intro h
      by_cases h2 : 128 ≤ x.toNat
      · exact .inl h2
      · right
        have : x.toNat % 128 = x.toNat := by omega
        rw [this]
        omega
    · rintro (h | h)
      · omega
      · omega
  have hu : ((128 ^ i : Nat) : Int) ≤ 72057594037927936 := by omega
  have hu0 : 0 ≤ ((128 ^ i : Nat) : Int) := by omega
  have hp7 : i ≠ 8 → 128 ^ i ≤ 128 ^ 7 := fun h => Nat.pow_le_pow_right (by decide) (by omega)
  generalize hpw : 128 ^ i = u at *
  have hxu : x.toNat % 128 * u ≤ 127 * 128 ^ 8 := h127
  by_cases h8 : i = 8 ∧ 15 < x.toNat
  · rw [if_pos (.inl ⟨h8.1, (h16 h8.1).1 h8.2⟩)] at hR
    obtain ⟨h81, h82⟩ := h8
    have hb15 : 15 < byteAt (ba l) i := by omega
    repeat (first | refine GD ?_ | refine NW fun _ => ?_)
    refine WL.step rfl (OP.call (pre := [blk r [.string (ba l), .int .i64 0] 84]) rfl rfl (qwrong_ok r _ 0 1) PS rfl rfl ?_)
    rintro _ _ ⟨rfl, rfl⟩
    repeat (first | refine GD ?_ | refine NW fun _ => ?_)
    subst hR
    exact ret1 rfl ⟨_, ⟨rfl, rfl⟩, Imp.refl _⟩
  have h8' : ¬ (i = 8 ∧ (128 ≤ x.toNat ∨ widest < ((m + x.toNat % 128 * u : Nat) : Int))) := fun h => h8 ⟨h.1, (h16 h.1).2 h.2⟩
  have hle15 : i = 8 → byteAt (ba l) i ≤ 15 := by intro h; omega
  by_cases hi : i = 8
  · have hb15 : ¬ 15 < byteAt (ba l) i := by omega
    have hc1 : x.toNat < 128 := by omega
    have hc128 : byteAt (ba l) i < 128 := by omega
    have hi0 : 0 < i := by omega
    by_cases hz : x.toNat = 0
    · rw [if_pos (.inr ⟨hi0, hz⟩)] at hR
      have hz0 : byteAt (ba l) i = 0 := by omega
      repeat (first | refine GD ?_ | refine NW fun _ => ?_)
      refine WL.step rfl (OP.call (pre := [blk r [.string (ba l), .int .i64 0] 84]) rfl rfl (qwrong_ok r _ 0 1) PS rfl rfl ?_)
      rintro _ _ ⟨rfl, rfl⟩
      repeat (first | refine GD ?_ | refine NW fun _ => ?_)
      subst hR
      exact ret1 rfl ⟨_, ⟨rfl, rfl⟩, Imp.refl _⟩
    · rw [if_neg (fun h => h.elim h8' (fun h => hz h.2)), if_pos hc1] at hR
      have hz0 : ¬ byteAt (ba l) i = 0 := by omega
      repeat (first | refine GD ?_ | refine NW fun _ => ?_)
      subst hR
      rw [hval]
      refine ret1 rfl ⟨[blk r [.string ((ba l).extract (i + 1) (ba l).size), .int .i64 0] 84], ⟨rfl, ?_⟩, Imp.refl _⟩
      rw [ba_drop]
      rfl
  · by_cases hc1 : x.toNat < 128
    · have hc128 : byteAt (ba l) i < 128 := by omega
      by_cases hi0 : 0 < i
      · by_cases hz : x.toNat = 0
        · rw [if_pos (.inr ⟨hi0, hz⟩)] at hR
          have hz0 : byteAt (ba l) i = 0 := by omega
          repeat (first | refine GD ?_ | refine NW fun _ => ?_)
          refine WL.step rfl (OP.call (pre := [blk r [.string (ba l), .int .i64 0] 84]) rfl rfl (qwrong_ok r _ 0 1) PS rfl rfl ?_)
          rintro _ _ ⟨rfl, rfl⟩
          repeat (first | refine GD ?_ | refine NW fun _ => ?_)
          subst hR
          exact ret1 rfl ⟨_, ⟨rfl, rfl⟩, Imp.refl _⟩
        · rw [if_neg (fun h => h.elim h8' (fun h => hz h.2)), if_pos hc1] at hR
          have hz0 : ¬ byteAt (ba l) i = 0 := by omega
          repeat (first | refine GD ?_ | refine NW fun _ => ?_)
          subst hR
          rw [hval]
          refine ret1 rfl ⟨[blk r [.string ((ba l).extract (i + 1) (ba l).size), .int .i64 0] 84], ⟨rfl, ?_⟩, Imp.refl _⟩
          rw [ba_drop]
          rfl
      · rw [if_neg (fun h => h.elim h8' (fun h => hi0 h.1)), if_pos hc1] at hR
        repeat (first | refine GD ?_ | refine NW fun _ => ?_)
        subst hR
        rw [hval]
        refine ret1 rfl ⟨[blk r [.string ((ba l).extract (i + 1) (ba l).size), .int .i64 0] 84], ⟨rfl, ?_⟩, Imp.refl _⟩
        rw [ba_drop]
        rfl
    · have hc128 : ¬ byteAt (ba l) i < 128 := by omega
      have hp7 := hp7 hi
      rw [if_neg (fun h => h.elim h8' (fun h => by omega)), if_neg hc1] at hR
      repeat (first | refine GD ?_ | refine NW fun _ => ?_)
      exact ⟨(i + 1, m + x.toNat % 128 * u), ⟨by dsimp only; omega, by dsimp only; omega, hm2, hR⟩, by dsimp only; omega, ⟨rfl, by rw [hval]; rfl, by rw [hp1]; rfl, rfl, trivial⟩, Imp.refl _⟩
end Go.Proofs.YtkoakmaihcheaacDoor
