/- Contracts of functions of the given program, and plain laws on what they compute: parts of the proofs of laws. -/
import Derived.Test.YtkoakmaihcheaacDoorGLt
import Derived.Test.YtkoakmaihcheaacDoorR5
import Derived.Test.YtkoakmaihcheaacDoorGLq

namespace Go.Proofs.YtkoakmaihcheaacDoor
open Go Go.GL

theorem ofNat_toNat {n : Nat} (h : n < 256) : (UInt8.ofNat n).toNat = n := by rw [UInt8.toNat_ofNat']; omega
theorem numB_inj : ∀ (k n m : Nat) (a b : List UInt8), n ≤ k → numB n ++ a = numB m ++ b → n = m ∧ a = b := by
  intro k
  induction k with
  | zero =>
    intro n m a b hn h
    obtain rfl : n = 0 := by omega
    rw [numB_lt (by omega)] at h
    by_cases hm : m < 128
    · rw [numB_lt hm, List.singleton_append, List.singleton_append, List.cons.injEq] at h
      have := congrArg UInt8.toNat h.1
      rw [ofNat_toNat (by omega), ofNat_toNat (by omega)] at this
      exact ⟨this, h.2⟩
    · rw [numB_ge hm, List.singleton_append, List.cons_append, List.cons.injEq] at h
      have := congrArg UInt8.toNat h.1
      rw [ofNat_toNat (by omega), ofNat_toNat (by omega)] at this
      omega
  | succ k ih =>
    intro n m a b hn h
    by_cases hn' : n < 128
    · rw [numB_lt hn'] at h
      by_cases hm : m < 128
      · rw [numB_lt hm, List.singleton_append, List.singleton_append, List.cons.injEq] at h
        have := congrArg UInt8.toNat h.1
        rw [ofNat_toNat (by omega), ofNat_toNat (by omega)] at this
        exact ⟨this, h.2⟩
      · rw [numB_ge hm, List.singleton_append, List.cons_append, List.cons.injEq] at h
        have := congrArg UInt8.toNat h.1
        rw [ofNat_toNat (by omega), ofNat_toNat (by omega)] at this
        omega
    · rw [numB_ge hn'] at h
      by_cases hm : m < 128
      · rw [numB_lt hm, List.singleton_append, List.cons_append, List.cons.injEq] at h
        have := congrArg UInt8.toNat h.1
        rw [ofNat_toNat (by omega), ofNat_toNat (by omega)] at this
        omega
      · rw [numB_ge hm, List.cons_append, List.cons_append, List.cons.injEq] at h
        have h1 := congrArg UInt8.toNat h.1
        rw [ofNat_toNat (by omega), ofNat_toNat (by omega)] at h1
        have h2 := ih (n / 128) (m / 128) a b (by omega) h.2
        exact ⟨by omega, h2.2⟩
theorem clamp_inj {x y : Int} (hx : 0 ≤ x ∧ x ≤ widest) (hy : 0 ≤ y ∧ y ≤ widest) (h : clampN x = clampN y) : x = y := by unfold clampN at h; omega
theorem body_inj {g o : Int} {r s : Rec} {a b : List UInt8} (hr : RightR r) (hs : RightR s) (hg : 0 ≤ g ∧ g ≤ widest) (ho : 0 ≤ o ∧ o ≤ widest) (h : bodyM g r ++ a = bodyM o s ++ b) : g = o ∧ r = s := by
  obtain ⟨s1, k1, b1, d1, n1⟩ := r
  obtain ⟨s2, k2, b2, d2, n2⟩ := s
  obtain ⟨hs1, hc1⟩ := hr
  obtain ⟨hs2, hc2⟩ := hs
  have hw : (8 : Int) ≤ widest := by decide
  dsimp only at hs1 hs2 hc1 hc2
  unfold bodyM at h
  dsimp only at h
  simp only [List.append_assoc] at h
  obtain ⟨e1, h1⟩ := numB_inj _ _ _ _ _ (Nat.le_refl _) h
  obtain ⟨e2, h2⟩ := numB_inj _ _ _ _ _ (Nat.le_refl _) h1
  obtain ⟨e3, h3⟩ := numB_inj _ _ _ _ _ (Nat.le_refl _) h2
  clear h h1 h2
  have e1 := clamp_inj hg ho e1
  have e2 := clamp_inj (by omega) (by omega) e2
  have e3 := clamp_inj (by omega) (by omega) e3
  subst e1 e2 e3
  refine ⟨rfl, ?_⟩
  by_cases hk : k1 = 1
  · rw [if_pos hk, if_pos hk] at h3
    simp only [List.append_assoc] at h3
    obtain ⟨e4, h4⟩ := numB_inj _ _ _ _ _ (Nat.le_refl _) h3
    have e4 := clamp_inj (by omega) (by omega) e4
    unfold textB at h4
    simp only [List.append_assoc] at h4
    obtain ⟨e5, h5⟩ := numB_inj _ _ _ _ _ (Nat.le_refl _) h4
    have l1 : d1.data.toList.length = d1.size := Array.length_toList
    have l2 : d2.data.toList.length = d2.size := Array.length_toList
    have e6 := List.append_inj_left h5 (by rw [l1, l2, e5])
    have e7 : d1 = d2 := by rw [← ba_data d1, e6, ba_data]
    subst e4 e7
    have : n1 = n2 := by omega
    rw [this]
  · rw [if_neg hk, if_neg hk] at h3
    obtain ⟨e4, _⟩ := numB_inj _ _ _ _ _ (Nat.le_refl _) h3
    have hc1 := hc1.resolve_right (fun x => hk x.1)
    have hc2 := hc2.resolve_right (fun x => hk x.1)
    have e4 := clamp_inj (by omega) (by omega) e4
    rw [e4, hc1.2.2.2, hc2.2.2.2, hc1.2.2.1, hc2.2.2.1]
theorem sector_inj {g o : Int} {r s : Rec} (hr : RightR r) (hs : RightR s) (hg : 0 ≤ g ∧ g ≤ widest) (ho : 0 ≤ o ∧ o ≤ widest) (h : sectorM (bodyM g r) = sectorM (bodyM o s)) : g = o ∧ r = s := by
  unfold sectorM at h
  have h1 := List.append_inj_left h (by rw [padM_len (bodyM_len hr), padM_len (bodyM_len hs)])
  unfold padM at h1
  exact body_inj hr hs hg ho h1
def recFs : List Field := [⟨"Seq", 3, 0, false, "", "", 0⟩, ⟨"Kind", 3, 1, false, "", "", 8⟩, ⟨"Block", 3, 2, false, "", "", 16⟩, ⟨"Data", 9, 3, false, "", "", 24⟩, ⟨"Number", 3, 4, false, "", "", 40⟩]
theorem eq_rec (r s : Rec) : eqFs G.T (encR r) (encR s) recFs = some (decide (r = s)) := by
  obtain ⟨s1, k1, b1, d1, n1⟩ := r
  obtain ⟨s2, k2, b2, d2, n2⟩ := s
  have : eqFs G.T (encR (s1, k1, b1, d1, n1)) (encR (s2, k2, b2, d2, n2)) recFs = some (decide (s1 = s2) && (decide (k1 = k2) && (decide (b1 = b2) && (decide (d1 = d2) && (decide (n1 = n2) && true))))) := rfl
  rw [this]
  simp [Prod.mk.injEq, Bool.decide_and]
theorem ba_inj {a b : List UInt8} (h : ba a = ba b) : a = b := by
  unfold ba at h
  have := ByteArray.mk.inj h
  simpa using this
end Go.Proofs.YtkoakmaihcheaacDoor
