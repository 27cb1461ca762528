/- Contracts of functions of the given program, and plain laws on what they compute: parts of the proofs of laws. -/
import Derived.Test.YtkoakmaihcheaacDoorGLt
import Derived.Test.YtkoakmaihcheaacDoorR13

namespace Go.Proofs.YtkoakmaihcheaacDoor
open Go Go.GL

theorem rdN_numB : ∀ (k n i acc : Nat) (rest : List UInt8), n ≤ k → i ≤ 8 → ((acc + n * 128 ^ i : Nat) : Int) ≤ widest → (0 < i → n ≠ 0) → rdN i acc (numB n ++ rest) = .ok (acc + n * 128 ^ i, rest) := by
  intro k
  induction k with
  | zero =>
    intro n i acc rest hk hi hw hz
    obtain rfl : n = 0 := by omega
    rw [numB_lt (by omega), List.singleton_append, rdN_cons, ofNat_toNat (by omega)]
    rw [if_neg (by omega), if_pos (by omega)]
  | succ k ih =>
    intro n i acc rest hk hi hw hz
    by_cases hn : n < 128
    · rw [numB_lt hn, List.singleton_append, rdN_cons, ofNat_toNat (by omega), Nat.mod_eq_of_lt hn]
      rw [if_neg (by omega), if_pos hn]
    · have hp : 0 < 128 ^ i := Nat.pow_pos (by omega)
      have hsplit : n * 128 ^ i = n % 128 * 128 ^ i + n / 128 * 128 ^ (i + 1) := by
        have h1 : n = n % 128 + n / 128 * 128 := by omega
        conv => lhs; rw [h1]
        rw [Nat.add_mul, Nat.pow_succ, Nat.mul_assoc (n / 128), Nat.mul_comm 128]
      have hi8 : i ≠ 8 := by
        intro e
        subst e
        have : 128 * 128 ^ 8 ≤ n * 128 ^ 8 := Nat.mul_le_mul_right _ (by omega)
        unfold widest at hw
        omega
      rw [numB_ge hn, List.cons_append, rdN_cons, ofNat_toNat (by omega), show (n % 128 + 128) % 128 = n % 128 by omega]
      rw [if_neg (by omega), if_neg (by omega), ih (n / 128) (i + 1) _ rest (by omega) (by omega) (by rw [hsplit] at hw; omega) (by omega), hsplit, Nat.add_assoc]
theorem numR_numB {x : Int} (hx : 0 ≤ x ∧ x ≤ widest) (rest : List UInt8) : numR (numB (clampN x) ++ rest, 0) = (x, (rest, 0)) := by
  have hc : (clampN x : Int) = x := by unfold clampN; omega
  rw [numR_zero, rdN_numB _ _ 0 0 rest (Nat.le_refl _) (by omega) (by rw [Nat.pow_zero, Nat.mul_one, Nat.zero_add, hc]; exact hx.2) (by omega)]
  simp only [numF, Nat.pow_zero, Nat.mul_one, Nat.zero_add, hc]
theorem textR_textB {d : ByteArray} (hd : d.size ≤ 16) (rest : List UInt8) : textR 16 (textB d ++ rest, 0) = (d, (rest, 0)) := by
  have hw : (16 : Int) ≤ widest := by decide
  have hl : d.data.toList.length = d.size := Array.length_toList
  have hc := clamp_nat d.size (by omega)
  have h := numR_numB (x := (d.size : Int)) (by omega) (d.data.toList ++ rest)
  rw [hc] at h
  unfold textB textR
  rw [List.append_assoc, h]
  dsimp only
  rw [if_neg (by simp), if_neg (by omega), if_neg (by rw [List.length_append]; omega), Int.toNat_natCast, ← hl, List.take_left, List.drop_left, ba_data]
theorem readM_body {g : Int} {r : Rec} (hr : RightR r) (hg : 0 ≤ g ∧ g ≤ widest) (rest : List UInt8) : readM (bodyM g r ++ rest, 0) = ((g, r), (rest, 0)) := by
  obtain ⟨s1, k1, b1, d1, n1⟩ := r
  obtain ⟨hs1, hc1⟩ := hr
  have hw : (8 : Int) ≤ widest := by decide
  dsimp only at hs1 hc1
  unfold bodyM
  dsimp only
  simp only [List.append_assoc]
  unfold readM
  rw [numR_numB hg, numR_numB (by omega), numR_numB (by omega)]
  by_cases hk : k1 = 1
  · rw [if_pos hk, if_pos hk]
    have hc1 := hc1.resolve_left (fun x => by omega)
    simp only [List.append_assoc]
    rw [numR_numB (by omega), textR_textB hc1.2.2.1, hc1.2.2.2]
  · rw [if_neg hk, if_neg hk]
    have hc1 := hc1.resolve_right (fun x => hk x.1)
    rw [numR_numB (by omega), hc1.2.2.1, hc1.2.2.2]
theorem decR_enc {g : Int} {r : Rec} (hr : RightR r) (hg : 0 ≤ g ∧ g ≤ widest) : decR (sectorM (bodyM g r)) = .ok (g, r) := by
  have hp := padM_len (bodyM_len (gen := g) hr)
  have hl := sectorM_len (bodyM_len (gen := g) hr)
  have e1 : (sectorM (bodyM g r)).take 60 = padM (bodyM g r) := by unfold sectorM; rw [List.take_left' hp]
  have e2 : (sectorM (bodyM g r)).drop 60 = tailM (padM (bodyM g r)) := by unfold sectorM; rw [List.drop_left' hp]
  have ho : OpenOk (sectorM (bodyM g r)) := by
    unfold OpenOk
    rw [hl]
    exact ⟨by omega, by rw [e1, e2]⟩
  unfold decR
  rw [if_pos ⟨ho, hl⟩, e1]
  have := readM_body hr hg (List.replicate (60 - (bodyM g r).length) 0)
  unfold padM
  rw [this, if_pos ⟨rfl, ⟨hr, hg⟩, rfl⟩]
theorem decR_ok {l : List UInt8} {g : Int} {r : Rec} (h : decR l = .ok (g, r)) : RightR r ∧ (0 ≤ g ∧ g ≤ widest) ∧ sectorM (bodyM g r) = l ∧ r.2.2.2.1.size ≤ 16 := by
  have hsz := readM_size (l.take 60, 0)
  unfold decR at h
  split at h
  · split at h
    · rename_i hc
      simp only [Except.ok.injEq] at h
      rw [h] at hc hsz
      exact ⟨hc.2.1.1, hc.2.1.2, hc.2.2, hsz⟩
    · cases h
  · cases h
end Go.Proofs.YtkoakmaihcheaacDoor
