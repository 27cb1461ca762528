/- Contracts of functions of the given program, and plain laws: parts of the proofs of laws. -/
import Derived.Test.YteednjcoapmkaaaGreatDoorZVol7
import Derived.Test.YteednjcoapmkaaaGreatDoorZVol13
import Derived.Test.YteednjcoapmkaaaGreatDoorZVol12
/- Contracts of functions of the given program, and plain laws on what they compute: parts of the proofs of laws. -/
namespace Go.Proofs.YteednjcoapmkaaaGreatDoor
open Go Go.GL

theorem openOk_sector {l : List UInt8} (h : l.length ≤ 60) : OpenOk (sectorM l) ∧ (sectorM l).take ((sectorM l).length - 4) = padM l := by
  have h1 := sectorM_len h
  have h2 := padM_len h
  have e : (sectorM l).take ((sectorM l).length - 4) = padM l := by
    rw [h1]
    unfold sectorM
    exact List.take_left' h2
  have e2 : (sectorM l).drop ((sectorM l).length - 4) = tailM (padM l) := by
    rw [h1]
    unfold sectorM
    exact List.drop_left' h2
  exact ⟨⟨by omega, by rw [e, e2]⟩, e⟩
structure Hd.ok (h : Hd) : Prop where
  turn : 0 ≤ h.turn ∧ h.turn ≤ widest
  first : 1 ≤ h.first ∧ h.first ≤ widest
  low : 0 ≤ h.low ∧ h.low ≤ h.gen
  gen : h.gen ≤ widest
theorem hd4_pad {h : Hd} (k : h.ok) : hd4 (padM (headB h), 0) = (h, (List.replicate (60 - (headB h).length) 0, 0)) := by
  have e : padM (headB h) = numB (clampN h.turn) ++ (numB (clampN h.first) ++ (numB (clampN h.gen) ++ (numB (clampN h.low) ++ List.replicate (60 - (headB h).length) 0))) := by
    unfold padM
    generalize List.replicate (60 - (headB h).length) (0 : UInt8) = z
    unfold headB
    simp only [List.append_assoc]
  have h1 := k.turn
  have h2 := k.first
  have h3 := k.low
  have h4 := k.gen
  unfold hd4
  rw [e, numR_numB h1]
  dsimp only
  rw [numR_numB (by omega)]
  dsimp only
  rw [numR_numB (by omega)]
  dsimp only
  rw [numR_numB (by omega)]
theorem headOf_headS {h : Hd} (k : h.ok) (slot : Int) : headOf (headS h) slot = if h.turn % 2 = slot then some h else none := by
  obtain ⟨o1, o2⟩ := openOk_sector (headB_len h)
  have e : hd4 ((headS h).take ((headS h).length - 4), 0) = (h, (List.replicate (60 - (headB h).length) 0, 0)) := by
    unfold headS; rw [o2]; exact hd4_pad k
  unfold headOf
  rw [e]
  dsimp only
  have h1 := k.first
  have h2 := k.low
  by_cases hs : h.turn % 2 = slot
  · rw [if_pos hs, if_pos ⟨o1, rfl, h2.2, by omega, hs, rfl⟩]
  · rw [if_neg hs, if_neg (fun x => hs x.2.2.2.2.1)]
theorem readM_zero : (readM (List.replicate 60 0, 0)).1.2.2.1 = 0 := by decide
theorem decR_zero (x : Int × Rec) : decR zero64 ≠ .ok x := by
  intro h
  have hr := (decR_ok h).1
  unfold decR at h
  split at h
  · split at h
    · cases h
      have e : zero64.take 60 = List.replicate 60 0 := rfl
      rw [e] at hr
      obtain ⟨_, hk⟩ := hr
      have hz := readM_zero
      generalize (readM (List.replicate 60 0, 0)).1.2 = y at *
      omega
    · cases h
  · cases h
theorem hd4_zero : (hd4 (List.replicate 60 0, 0)).1.first = 0 := by decide
theorem headOf_zero (slot : Int) : headOf zero64 slot = none := by
  unfold headOf
  rw [if_neg]
  rintro ⟨_, _, _, h, _⟩
  have e : zero64.take (zero64.length - 4) = List.replicate 60 0 := rfl
  rw [e, hd4_zero] at h
  omega
theorem fits_some {b : List UInt8} {seq low gen : Int} {x : Held} (h : fits b seq low gen = some x) : decR b = .ok x ∧ x.2.1 = seq ∧ low ≤ x.1 ∧ x.1 ≤ gen := by
  unfold fits at h
  split at h
  · rename_i g r hd
    split at h
    · rename_i hc; cases h; exact ⟨hd, hc⟩
    · cases h
  · cases h
theorem fits_ok {b : List UInt8} {seq low gen : Int} {x : Held} (h : decR b = .ok x) (h1 : x.2.1 = seq) (h2 : low ≤ x.1) (h3 : x.1 ≤ gen) : fits b seq low gen = some x := by
  unfold fits
  rw [h]
  obtain ⟨g, r⟩ := x
  dsimp only at h1 h2 h3 ⊢
  rw [if_pos ⟨h1, h2, h3⟩]
theorem fits_none {b : List UInt8} {seq low gen : Int} (h : ∀ x, decR b = .ok x → x.2.1 = seq → low ≤ x.1 → x.1 ≤ gen → False) : fits b seq low gen = none := by
  cases hf : fits b seq low gen with
  | none => rfl
  | some x => obtain ⟨h1, h2, h3, h4⟩ := fits_some hf; exact (h x h1 h2 h3 h4).elim
/-- the generation that a record at a place must reach -/
def lowAt (low : Int) (held : List Held) (i : Nat) : Int := if i = 0 then low else (held.getD (i - 1) (0, rec0)).1
theorem lowAt_succ (low : Int) (held : List Held) {i : Nat} (h : i < held.length) : lowAt low held (i + 1) = held[i].1 := by
  unfold lowAt
  rw [if_neg (by omega), Nat.add_sub_cancel, List.getD_eq_getElem?_getD, List.getElem?_eq_getElem h]; rfl
/-- the scan finds just these -/
theorem scan_take {D : Dsk} {ring : Nat} {h : Hd} {held : List Held} {p : Nat} (hp : p ≤ ring) (hl : p ≤ held.length)
    (hit : ∀ i (hi : i < p), fits (D.cur (posM ring (h.first + i))) (h.first + i) (lowAt h.low held i) h.gen = some (held[i]'(by omega)))
    (stop : p < ring → fits (D.cur (posM ring (h.first + p))) (h.first + p) (lowAt h.low held p) h.gen = none) : scanM D ring h = held.take p := by
  have key : ∀ (k i : Nat), i ≤ p → k = ring - i → scanF D ring h k (held.take i) (lowAt h.low held i) = held.take p := by
    intro k
    induction k with
    | zero =>
      intro i hi hk
      have : i = p := by omega
      subst this; rfl
    | succ k ih =>
      intro i hi hk
      have hlen : (held.take i).length = i := by rw [List.length_take]; omega
      unfold scanF
      rw [hlen]
      by_cases hip : i < p
      · rw [hit i hip]
        dsimp only
        have := ih (i + 1) (by omega) (by omega)
        rw [lowAt_succ _ _ (by omega), List.take_succ_eq_append_getElem (by omega)] at this
        exact this
      · have : i = p := by omega
        subst this
        rw [stop (by omega)]
  exact key ring 0 (by omega) (by omega)
def secH (x : Held) : List UInt8 := sectorM (bodyM x.1 x.2)
/-- what holds of a journal and its disk: the first f records are fast -/
structure JInv (J : Jrn) (D : Dsk) (f : Nat) (B : Int) : Prop where
  dok : D.ok
  ring : 1 ≤ J.ring ∧ J.ring ≤ 512 ∧ 2 + J.ring ≤ D.S.length
  hdr : 0 ≤ J.hd.turn ∧ 1 ≤ J.hd.first ∧ 0 ≤ J.hd.low ∧ J.hd.low ≤ J.hd.gen
  bound : J.hd.turn + J.hd.gen + J.hd.first + J.held.length ≤ B
  len : J.held.length ≤ J.ring
  fle : f ≤ J.held.length
  seq : ∀ i (h : i < J.held.length), (J.held[i]).2.1 = J.hd.first + i
  right : ∀ x ∈ J.held, RightR x.2
  gens : ∀ i (h : i < J.held.length), lowAt J.hd.low J.held i ≤ (J.held[i]).1 ∧ (J.held[i]).1 ≤ J.hd.gen
  new : ∀ i (h : i < J.held.length), f ≤ i → (J.held[i]).1 = J.hd.gen
  head : D.S.getD (J.hd.turn % 2).toNat [] = headS J.hd
  other : ∀ h', headOf (D.S.getD (1 - J.hd.turn % 2).toNat []) (1 - J.hd.turn % 2) = some h' → h'.turn < J.hd.turn
  durable : ∀ i (h : i < J.held.length), i < f → D.S.getD (posM J.ring (J.hd.first + i)) [] = secH J.held[i]
  loose : D.W = (J.held.drop f).map (fun x => (posM J.ring x.2.1, secH x))
  stale : ∀ q, q < J.ring → ∀ x, decR (D.S.getD (2 + q) []) = .ok x → x.1 ≤ J.hd.gen ∧ (J.hd.first + f < x.2.1 → x.1 < J.hd.gen)
  stop : fits (D.S.getD (posM J.ring (J.hd.first + f)) []) (J.hd.first + f) (lowAt J.hd.low J.held f) J.hd.gen = none
theorem pos_inj {ring : Nat} (hr : 1 ≤ ring) {a b : Int} (h : posM ring a = posM ring b) (hab : a ≤ b) (hb : b < a + ring) : a = b := by
  unfold posM at h
  have h1 : a % ring = b % ring := by
    have := Int.emod_nonneg a (show (ring : Int) ≠ 0 by omega)
    have := Int.emod_nonneg b (show (ring : Int) ≠ 0 by omega)
    omega
  have h2 : (b - a) % ring = 0 := by rw [Int.sub_emod, h1]; simp
  obtain ⟨k, hk⟩ := Int.dvd_of_emod_eq_zero h2
  have hk0 : k = 0 := by
    rcases Int.lt_trichotomy k 0 with h | h | h
    · have : (ring : Int) * k ≤ ring * (-1) := Int.mul_le_mul_of_nonneg_left (by omega) (by omega)
      omega
    · exact h
    · have : (ring : Int) * 1 ≤ ring * k := Int.mul_le_mul_of_nonneg_left (by omega) (by omega)
      omega
  rw [hk0, Int.mul_zero] at hk
  omega
theorem pos_bd {ring : Nat} (hr : 1 ≤ ring) (a : Int) : 2 ≤ posM ring a ∧ posM ring a < 2 + ring ∧ posM ring a = 2 + (posM ring a - 2) ∧ posM ring a - 2 < ring := by
  unfold posM
  have := Int.emod_nonneg a (show (ring : Int) ≠ 0 by omega)
  have := Int.emod_lt_of_pos a (show (0 : Int) < ring by omega)
  omega
theorem pos_wrap {ring : Nat} (a : Int) : posM ring (a + ring) = posM ring a := by
  unfold posM
  rw [Int.add_emod_right]
/-- what a settled disk's sector is -/
theorem settle_other (kept : Nat → Bool) : ∀ (W : List (Nat × List UInt8)) (k : Nat) (S : List (List UInt8)) (p : Nat), (∀ x ∈ W, x.1 ≠ p) → (settleF kept k W S).getD p [] = S.getD p []
  | [], _, _, _, _ => rfl
  | x :: r, k, S, p, h => by
    rw [settleF, settle_other kept r (k + 1) _ p (fun y hy => h y (List.mem_cons_of_mem _ hy))]
    have := h x List.mem_cons_self
    split
    · rw [List.getD_eq_getElem?_getD, List.getD_eq_getElem?_getD, List.getElem?_set_ne this]
    · rfl
theorem settle_at (kept : Nat → Bool) : ∀ (W : List (Nat × List UInt8)) (k : Nat) (S : List (List UInt8)) (t : Nat) (ht : t < W.length), (∀ u (hu : u < W.length), u ≠ t → W[u].1 ≠ W[t].1) → W[t].1 < S.length →
    (settleF kept k W S).getD W[t].1 [] = if kept (k + t) = true then W[t].2 else S.getD W[t].1 []
  | x :: r, k, S, 0, _, h, hp => by
    rw [settleF]
    show (settleF kept (k + 1) r _).getD x.1 [] = _
    rw [settle_other kept r (k + 1) _ x.1 (fun y hy => by
      obtain ⟨u, hu, rfl⟩ := List.getElem_of_mem hy
      exact h (u + 1) (by simpa using hu) (by omega))]
    show _ = if kept (k + 0) = true then x.2 else S.getD x.1 []
    rw [Nat.add_zero]
    have hp' : x.1 < S.length := hp
    split
    · rw [List.getD_eq_getElem?_getD, List.getElem?_set_self hp']; rfl
    · rfl
  | x :: r, k, S, t + 1, ht, h, hp => by
    rw [settleF]
    have ht' : t < r.length := by simpa using ht
    have hx : x.1 ≠ r[t].1 := h 0 (by simp) (by omega)
    have hlen : (if kept k = true then S.set x.1 x.2 else S).length = S.length := by split <;> simp
    have := settle_at kept r (k + 1) (if kept k = true then S.set x.1 x.2 else S) t ht' (fun u hu hne => h (u + 1) (by simpa using hu) (by omega)) (by rw [hlen]; exact hp)
    show (settleF kept (k + 1) r _).getD r[t].1 [] = if kept (k + (t + 1)) = true then r[t].2 else S.getD r[t].1 []
    rw [this, show k + 1 + t = k + (t + 1) by omega]
    have e : (if kept k = true then S.set x.1 x.2 else S).getD r[t].1 [] = S.getD r[t].1 [] := by
      split
      · rw [List.getD_eq_getElem?_getD, List.getD_eq_getElem?_getD, List.getElem?_set_ne hx]
      · rfl
    rw [e]
end Go.Proofs.YteednjcoapmkaaaGreatDoor
/- Contracts of functions of the given program, and plain laws on what they compute: parts of the proofs of laws. -/
namespace Go.Proofs.YteednjcoapmkaaaGreatDoor
open Go Go.GL

section
variable {J : Jrn} {D : Dsk} {f : Nat} {B : Int}
theorem JInv.wlen (I : JInv J D f B) : D.W.length = J.held.length - f := by rw [I.loose, List.length_map, List.length_drop]
theorem JInv.wget (I : JInv J D f B) {t : Nat} (h : t < D.W.length) : ∃ h' : f + t < J.held.length, D.W[t] = (posM J.ring (J.hd.first + (f + t : Nat)), secH J.held[f + t]) := by
  have hl := I.wlen
  have h' : f + t < J.held.length := by omega
  refine ⟨h', ?_⟩
  have : D.W[t]? = some (posM J.ring (J.hd.first + (f + t : Nat)), secH J.held[f + t]) := by
    rw [I.loose, List.getElem?_map, List.getElem?_drop, List.getElem?_eq_getElem h', ← I.seq _ h']; rfl
  rw [List.getElem?_eq_getElem h] at this
  exact Option.some.inj this
theorem JInv.posne (I : JInv J D f B) {i j : Nat} (hi : i < J.ring) (hj : j < J.ring) (h : i ≠ j) : posM J.ring (J.hd.first + (i : Nat)) ≠ posM J.ring (J.hd.first + (j : Nat)) := by
  intro e
  rcases Nat.lt_or_gt_of_ne h with h1 | h1
  · have := pos_inj I.ring.1 e (by omega) (by omega); omega
  · have := pos_inj I.ring.1 e.symm (by omega) (by omega); omega
/-- sectors ahead of the ring, and those of no loose record, stay -/
theorem JInv.keep (I : JInv J D f B) (kept : Nat → Bool) {p : Nat} (h : ∀ i (_ : i < J.held.length), f ≤ i → posM J.ring (J.hd.first + (i : Nat)) ≠ p) : (D.settle kept).S.getD p [] = D.S.getD p [] := by
  refine settle_other kept D.W 0 D.S p (fun x hx => ?_)
  obtain ⟨t, ht, rfl⟩ := List.getElem_of_mem hx
  obtain ⟨h', e⟩ := I.wget ht
  rw [e]
  exact h _ h' (by omega)
theorem JInv.keepHead (I : JInv J D f B) (kept : Nat → Bool) {p : Nat} (hp : p < 2) : (D.settle kept).S.getD p [] = D.S.getD p [] :=
  I.keep kept fun i _ _ e => by have := (pos_bd I.ring.1 (J.hd.first + (i : Nat))).1; omega
theorem JInv.atF (I : JInv J D f B) (kept : Nat → Bool) {i : Nat} (h : i < J.held.length) (hf : i < f) : (D.settle kept).S.getD (posM J.ring (J.hd.first + (i : Nat))) [] = secH J.held[i] := by
  have hl := I.len
  rw [I.keep kept (fun j hj hfj => I.posne (by omega) (by omega) (by omega)), I.durable i h hf]
theorem JInv.atL (I : JInv J D f B) (kept : Nat → Bool) {i : Nat} (h : i < J.held.length) (hf : f ≤ i) : (D.settle kept).S.getD (posM J.ring (J.hd.first + (i : Nat))) [] = if kept (i - f) = true then secH J.held[i] else D.S.getD (posM J.ring (J.hd.first + (i : Nat))) [] := by
  have hl := I.len
  have hw := I.wlen
  have ht : i - f < D.W.length := by omega
  obtain ⟨h', e⟩ := I.wget ht
  have e2 : f + (i - f) = i := by omega
  have hpb := pos_bd I.ring.1 (J.hd.first + (i : Nat))
  have hlen := I.ring.2.2
  have := settle_at kept D.W 0 D.S (i - f) ht (fun u hu hne => by
    obtain ⟨hu', eu⟩ := I.wget hu
    rw [eu, e]
    exact I.posne (by omega) (by omega) (by omega)) (by rw [e]; simp only [e2]; omega)
  rw [e] at this
  simp only [e2, Nat.zero_add] at this
  exact this
theorem JInv.atN (I : JInv J D f B) (kept : Nat → Bool) (h : J.held.length < J.ring) : (D.settle kept).S.getD (posM J.ring (J.hd.first + (J.held.length : Nat))) [] = D.S.getD (posM J.ring (J.hd.first + (J.held.length : Nat))) [] :=
  I.keep kept fun i hi _ => I.posne (by omega) h (by omega)
/-- what a settled disk's ring holds -/
theorem JInv.any (I : JInv J D f B) (kept : Nat → Bool) (p : Nat) : (D.settle kept).S.getD p [] = D.S.getD p [] ∨ ∃ i, ∃ h : i < J.held.length, f ≤ i ∧ (D.settle kept).S.getD p [] = secH J.held[i] := by
  by_cases h : ∃ i, ∃ _ : i < J.held.length, f ≤ i ∧ posM J.ring (J.hd.first + (i : Nat)) = p
  · obtain ⟨i, hi, hf, rfl⟩ := h
    rw [I.atL kept hi hf]
    by_cases hk : kept (i - f) = true
    · rw [if_pos hk]; exact .inr ⟨i, hi, hf, rfl⟩
    · rw [if_neg hk]; exact .inl rfl
  · exact .inl (I.keep kept fun i hi hf e => h ⟨i, hi, hf, e⟩)
theorem JInv.dec (I : JInv J D f B) (hB : B ≤ widest) {i : Nat} (h : i < J.held.length) : decR (secH J.held[i]) = .ok J.held[i] := by
  have h1 := I.right _ (List.getElem_mem h)
  have h2 := I.gens i h
  have h3 := I.hdr
  have h4 := I.bound
  have hlow : 0 ≤ lowAt J.hd.low J.held i := by
    clear h2
    induction i with
    | zero => exact h3.2.2.1
    | succ i ih =>
      have hi : i < J.held.length := by omega
      rw [lowAt_succ _ _ hi]
      have := ih hi (I.right _ (List.getElem_mem hi))
      have := (I.gens i hi).1
      omega
  exact decR_enc h1 ⟨by omega, by omega⟩
theorem low_le (I : JInv J D f B) {i : Nat} (h : i ≤ J.held.length) : lowAt J.hd.low J.held i ≤ J.hd.gen := by
  cases i with
  | zero => exact I.hdr.2.2.2
  | succ i => rw [lowAt_succ _ _ (by omega)]; exact (I.gens i (by omega)).2
theorem JInv.lowAt_new (I : JInv J D f B) {i : Nat} (h : i ≤ J.held.length) (hf : f < i) : lowAt J.hd.low J.held i = J.hd.gen := by
  obtain ⟨k, rfl⟩ : ∃ k, i = k + 1 := ⟨i - 1, by omega⟩
  rw [lowAt_succ _ _ (by omega)]
  exact I.new k (by omega) (by omega)
/-- nothing further is found where the disk is as it was -/
theorem JInv.stops (I : JInv J D f B) (_ : B ≤ widest) {p : Nat} (hp : p ≤ J.held.length) (hf : f ≤ p) : fits (D.S.getD (posM J.ring (J.hd.first + (p : Nat))) []) (J.hd.first + (p : Nat)) (lowAt J.hd.low J.held p) J.hd.gen = none := by
  by_cases h : f = p
  · subst h; exact I.stop
  · refine fits_none (fun x hx h1 h2 h3 => ?_)
    obtain ⟨_, _, e3, e4⟩ := pos_bd I.ring.1 (J.hd.first + (p : Nat))
    rw [e3] at hx
    have := (I.stale _ e4 x hx).2 (by omega)
    rw [I.lowAt_new hp (by omega)] at h2
    omega
/-- how many of the loose records are kept, without a gap -/
def leadK (kept : Nat → Bool) : Nat → Nat → Nat
  | 0, _ => 0
  | n + 1, k => if kept k = true then leadK kept n (k + 1) + 1 else 0
theorem leadK_le (kept : Nat → Bool) : ∀ n k, leadK kept n k ≤ n
  | 0, _ => Nat.le_refl _
  | n + 1, k => by unfold leadK; split; have := leadK_le kept n (k + 1); omega; omega
theorem leadK_hit (kept : Nat → Bool) : ∀ n k j, j < leadK kept n k → kept (k + j) = true
  | 0, _, _, h => by simp [leadK] at h
  | n + 1, k, j, h => by
    unfold leadK at h
    split at h
    · rename_i hk
      cases j with
      | zero => exact hk
      | succ j => have := leadK_hit kept n (k + 1) j (by omega); rwa [show k + 1 + j = k + (j + 1) by omega] at this
    · omega
theorem leadK_miss (kept : Nat → Bool) : ∀ n k, leadK kept n k < n → kept (k + leadK kept n k) = false
  | 0, _, h => by omega
  | n + 1, k, h => by
    unfold leadK at h ⊢
    split
    · rename_i hk
      rw [if_pos hk] at h
      have := leadK_miss kept n (k + 1) (by omega)
      rwa [show k + 1 + leadK kept n (k + 1) = k + (leadK kept n (k + 1) + 1) by omega] at this
    · rename_i hk; simpa using hk
theorem JInv.hok (I : JInv J D f B) (hB : B + 2 ≤ widest) : J.hd.ok := by
  have h1 := I.hdr
  have h2 := I.bound
  exact ⟨by omega, by omega, by omega, by omega⟩
theorem mod2 (t : Int) (_ : 0 ≤ t) : (t % 2 = 0 ∧ (t + 1) % 2 = 1 ∧ (t % 2).toNat = 0 ∧ (1 - t % 2).toNat = 1 ∧ ((t + 1) % 2).toNat = 1 ∧ (1 - (t + 1) % 2).toNat = 0) ∨ (t % 2 = 1 ∧ (t + 1) % 2 = 0 ∧ (t % 2).toNat = 1 ∧ (1 - t % 2).toNat = 0 ∧ ((t + 1) % 2).toNat = 0 ∧ (1 - (t + 1) % 2).toNat = 1) := by omega
theorem JInv.newest (I : JInv J D f B) (hB : B + 2 ≤ widest) {a b : List UInt8} (ha : a = D.S.getD 0 []) (hb : b = D.S.getD 1 []) : newestM a b = some J.hd := by
  have hk := I.hok hB
  have h1 := headOf_headS hk
  have hh := I.head
  have ho := I.other
  have hz0 : headOf (headS J.hd) (J.hd.turn % 2) = some J.hd := by rw [h1, if_pos rfl]
  subst ha hb
  unfold newestM
  rcases mod2 J.hd.turn I.hdr.1 with ⟨e1, _, e3, e4, _, _⟩ | ⟨e1, _, e3, e4, _, _⟩
  · rw [e3] at hh
    rw [e4, e1] at ho
    rw [e1] at hz0
    rw [hh, hz0]
    cases hy : headOf (D.S.getD 1 []) 1 with
    | none => rfl
    | some y =>
      have := ho y hy
      dsimp only
      rw [if_neg (by omega)]
  · rw [e3] at hh
    rw [e4, e1] at ho
    rw [e1] at hz0
    rw [hh, hz0]
    cases hy : headOf (D.S.getD 0 []) 0 with
    | none => rfl
    | some y =>
      have := ho y hy
      dsimp only
      rw [if_pos (by omega)]
theorem save_S (D : Dsk) (h : Hd) : (saveM D h).S = (D.flush).S.set (h.turn % 2).toNat (headS h) ∧ (saveM D h).W = [] := by
  refine ⟨?_, rfl⟩
  show settleF (fun _ => true) 0 (D.W ++ [((h.turn % 2).toNat, headS h)]) D.S = _
  rw [settleF_snoc, if_pos rfl]
  rfl
theorem flush_nil {D : Dsk} (h : D.W = []) : D.flush = D := by
  obtain ⟨S, W⟩ := D
  dsimp only at h
  subst h
  rfl
theorem getD_set_ne {S : List (List UInt8)} {i p : Nat} {x : List UInt8} (h : i ≠ p) : (S.set i x).getD p [] = S.getD p [] := by
  rw [List.getD_eq_getElem?_getD, List.getD_eq_getElem?_getD, List.getElem?_set_ne h]
theorem getD_set_eq {S : List (List UInt8)} {i : Nat} {x : List UInt8} (h : i < S.length) : (S.set i x).getD i [] = x := by
  rw [List.getD_eq_getElem?_getD, List.getElem?_set_self h]; rfl
theorem save_ok {D : Dsk} (h : D.ok) (hl : 2 ≤ D.S.length) (x : Hd) : (saveM D x).ok := by
  unfold saveM
  exact Dsk.settle_ok (Dsk.put_ok h (by omega) (headS_len x)) _
theorem save_len (D : Dsk) (x : Hd) : (saveM D x).S.length = D.S.length := Dsk.settle_len _ _
/-- BEHIND A CRASH what was fast is held, and of what wasn't the first ones alone; the journal goes on -/
theorem JInv.crash (I : JInv J D f B) (hB : B + 2 ≤ widest) (kept : Nat → Bool) : ∃ p, f ≤ p ∧ p ≤ J.held.length ∧ (∀ n, (∀ k, kept k = true) → n = J.held.length → p = n) ∧
    openM (D.settle kept) J.ring = .ok (⟨J.ring, { J.hd with gen := J.hd.gen + 1, turn := J.hd.turn + 1 }, J.held.take p⟩, saveM (D.settle kept) { J.hd with gen := J.hd.gen + 1, turn := J.hd.turn + 1 }) ∧
    JInv ⟨J.ring, { J.hd with gen := J.hd.gen + 1, turn := J.hd.turn + 1 }, J.held.take p⟩ (saveM (D.settle kept) { J.hd with gen := J.hd.gen + 1, turn := J.hd.turn + 1 }) p (B + 2) := by
  obtain ⟨r1, r2, r3⟩ := I.ring
  have hlen := I.len
  have hfl := I.fle
  obtain ⟨t0, t1, t2, t3⟩ := I.hdr
  have hbd := I.bound
  obtain ⟨n, hn⟩ : ∃ n, n = leadK kept (J.held.length - f) 0 := ⟨_, rfl⟩
  have hn1 := leadK_le kept (J.held.length - f) 0
  have hn2 : ∀ j, j < n → kept j = true := fun j hj => by have := leadK_hit kept (J.held.length - f) 0 j (by omega); rwa [Nat.zero_add] at this
  have hn3 : n < J.held.length - f → kept n = false := fun h => by have := leadK_miss kept (J.held.length - f) 0 (by omega); rwa [Nat.zero_add, ← hn] at this
  have hW : (D.settle kept).W = [] := rfl
  have hcur : ∀ i, (D.settle kept).cur i = (D.settle kept).S.getD i [] := fun i => rfl
  have hlenS : (D.settle kept).S.length = D.S.length := Dsk.settle_len _ _
  have hrec : ∀ i (h : i < J.held.length), i < f + n → (D.settle kept).S.getD (posM J.ring (J.hd.first + (i : Nat))) [] = secH J.held[i] := fun i h hi => by
    by_cases hif : i < f
    · exact I.atF kept h hif
    · rw [I.atL kept h (by omega), if_pos (hn2 _ (by omega))]
  have hstop : f + n < J.ring → fits ((D.settle kept).S.getD (posM J.ring (J.hd.first + (f + n : Nat))) []) (J.hd.first + (f + n : Nat)) (lowAt J.hd.low J.held (f + n)) J.hd.gen = none := fun h => by
    by_cases hL : f + n < J.held.length
    · rw [I.atL kept hL (by omega), show f + n - f = n by omega, if_neg (by rw [hn3 (by omega)]; decide)]
      exact I.stops (by omega) (by omega) (by omega)
    · have : f + n = J.held.length := by omega
      rw [this, I.atN kept (by omega)]
      exact I.stops (by omega) (Nat.le_refl _) (by omega)
  have hscan : scanM (D.settle kept) J.ring J.hd = J.held.take (f + n) := by
    refine scan_take (by omega) (by omega) (fun i hi => ?_) (fun h => ?_)
    · rw [hcur, hrec i (by omega) hi]
      exact fits_ok (I.dec (by omega) (by omega)) (I.seq i (by omega)) (I.gens i (by omega)).1 (I.gens i (by omega)).2
    · rw [hcur]; exact hstop h
  have hnew : newestM ((D.settle kept).cur 0) ((D.settle kept).cur 1) = some J.hd :=
    I.newest hB (by rw [hcur]; exact I.keepHead kept (by decide)) (by rw [hcur]; exact I.keepHead kept (by decide))
  have hsv := save_S (D.settle kept) { J.hd with gen := J.hd.gen + 1, turn := J.hd.turn + 1 }
  rw [flush_nil hW] at hsv
  have hsD : ∀ q, (saveM (D.settle kept) { J.hd with gen := J.hd.gen + 1, turn := J.hd.turn + 1 }).S.getD (2 + q) [] = (D.settle kept).S.getD (2 + q) [] := fun q => by
    rw [hsv.1, getD_set_ne (by dsimp only; omega)]
  have hsP : ∀ a, (saveM (D.settle kept) { J.hd with gen := J.hd.gen + 1, turn := J.hd.turn + 1 }).S.getD (posM J.ring a) [] = (D.settle kept).S.getD (posM J.ring a) [] := fun a => by
    rw [(pos_bd r1 a).2.2.1]; exact hsD _
  have hlt : (J.held.take (f + n)).length = f + n := by rw [List.length_take]; omega
  have hget : ∀ i (h : i < (J.held.take (f + n)).length), (J.held.take (f + n))[i] = J.held[i]'(by omega) := fun i h => List.getElem_take
  have hlow : ∀ i, i ≤ f + n → lowAt J.hd.low (J.held.take (f + n)) i = lowAt J.hd.low J.held i := fun i hi => by
    unfold lowAt
    split
    · rfl
    · rw [List.getD_eq_getElem?_getD, List.getD_eq_getElem?_getD, List.getElem?_take, if_pos (by omega)]
  refine ⟨f + n, by omega, by omega, fun m hk hm => ?_, ?_, ?_⟩
  · by_cases h : n < J.held.length - f
    · have := hn3 h; rw [hk] at this; cases this
    · omega
  · unfold openM
    rw [if_neg (by rw [hlenS]; omega), hnew]
    dsimp only
    rw [Int.toNat_natCast, hscan]
  · refine ⟨save_ok (Dsk.settle_ok I.dok kept) (by rw [hlenS]; omega) _, ⟨r1, r2, by rw [save_len, hlenS]; exact r3⟩, ⟨by dsimp only; omega, t1, t2, by dsimp only; omega⟩, by dsimp only; rw [hlt]; omega, by dsimp only; rw [hlt]; omega, by dsimp only; rw [hlt]; exact Nat.le_refl _, ?_, ?_, ?_, ?_, ?_, ?_, ?_, ?_, ?_, ?_⟩
    · intro i h
      rw [hget i h]
      exact I.seq i _
    · intro x hx
      exact I.right x (List.mem_of_mem_take hx)
    · intro i h
      dsimp only at h ⊢
      rw [hget i h, hlow i (by omega)]
      have := I.gens i (by omega)
      exact ⟨this.1, by omega⟩
    · intro i h hi
      dsimp only at h
      omega
    · dsimp only
      rw [hsv.1, getD_set_eq (by rw [hlenS]; dsimp only; omega)]
    · intro h' hh
      dsimp only at hh ⊢
      rw [hsv.1] at hh
      rcases mod2 J.hd.turn t0 with ⟨e1, e2, e3, e4, e5, e6⟩ | ⟨e1, e2, e3, e4, e5, e6⟩
      · rw [e5, e6, e2, getD_set_ne (by decide), I.keepHead kept (by decide)] at hh
        have := I.head
        rw [e3] at this
        rw [this, headOf_headS (I.hok hB), e1, if_pos (by decide)] at hh
        cases hh
        omega
      · rw [e5, e6, e2, getD_set_ne (by decide), I.keepHead kept (by decide)] at hh
        have := I.head
        rw [e3] at this
        rw [this, headOf_headS (I.hok hB), e1, if_pos (by decide)] at hh
        cases hh
        omega
    · intro i h hi
      dsimp only at h ⊢
      rw [hsP, hget i h, hrec i (by omega) (by omega)]
    · rw [hsv.2]
      dsimp only
      rw [List.drop_eq_nil_of_le (by rw [hlt]; exact Nat.le_refl _)]
      rfl
    · intro q hq x hx
      dsimp only at hq ⊢
      rw [hsD] at hx
      have hg : x.1 ≤ J.hd.gen := by
        rcases I.any kept (2 + q) with h | ⟨i, hi, _, h⟩
        · rw [h] at hx
          exact (I.stale q hq x hx).1
        · rw [h, I.dec (by omega) hi] at hx
          cases hx
          exact (I.gens i hi).2
      exact ⟨by omega, fun _ => by omega⟩
    · dsimp only
      rw [hsP]
      rw [hlow _ (Nat.le_refl _)]
      refine fits_none (fun x hx h1 h2 h3 => ?_)
      by_cases hr : f + n < J.ring
      · have hno := hstop hr
        obtain ⟨_, _, e3, e4⟩ := pos_bd r1 (J.hd.first + ((f + n : Nat) : Int))
        have hg : x.1 ≤ J.hd.gen := by
          rcases I.any kept (posM J.ring (J.hd.first + ((f + n : Nat) : Int))) with h | ⟨i, hi, _, h⟩
          · rw [h, e3] at hx
            exact (I.stale _ e4 x hx).1
          · rw [h, I.dec (by omega) hi] at hx
            cases hx
            exact (I.gens i hi).2
        rw [fits_ok hx h1 h2 hg] at hno
        cases hno
      · have hfr : f + n = J.ring := by omega
        have h0 : 0 < J.held.length := by omega
        have := hrec 0 h0 (by omega)
        rw [hfr, pos_wrap] at hx
        rw [show J.hd.first + ((0 : Nat) : Int) = J.hd.first by omega] at this
        rw [this, I.dec (by omega) h0] at hx
        cases hx
        have := I.seq 0 h0
        omega
end
end Go.Proofs.YteednjcoapmkaaaGreatDoor
/- Contracts of functions of the given program, and plain laws on what they compute: parts of the proofs of laws. -/
namespace Go.Proofs.YteednjcoapmkaaaGreatDoor
open Go Go.GL

section
variable {J : Jrn} {D : Dsk} {f : Nat} {B : Int}
/-- a record is put behind -/
theorem JInv.append (I : JInv J D f B) {r : Rec} {J' : Jrn} {D' : Dsk} (h : appendM J D r = .ok (J', D')) : JInv J' D' f (B + 2) ∧ J'.hd = J.hd ∧ J'.ring = J.ring ∧ J'.held = J.held ++ [(J.hd.gen, setSeq r J.next)] := by
  unfold appendM at h
  split at h
  · cases h
  rename_i hfull
  split at h
  · rename_i hr
    cases h
    obtain ⟨r1, r2, r3⟩ := I.ring
    have hlen := I.len
    have hfl := I.fle
    have hbd := I.bound
    have hpb := pos_bd r1 J.next
    have hll : (J.held ++ [(J.hd.gen, setSeq r J.next)]).length = J.held.length + 1 := by simp
    have hget : ∀ i (h : i < J.held.length), (J.held ++ [(J.hd.gen, setSeq r J.next)])[i]'(by omega) = J.held[i] := fun i h => List.getElem_append_left h
    have hgetn : (J.held ++ [(J.hd.gen, setSeq r J.next)])[J.held.length]'(by omega) = (J.hd.gen, setSeq r J.next) := by simp
    have hlow : ∀ i, i ≤ J.held.length → lowAt J.hd.low (J.held ++ [(J.hd.gen, setSeq r J.next)]) i = lowAt J.hd.low J.held i := fun i hi => by
      unfold lowAt
      split
      · rfl
      · rw [List.getD_eq_getElem?_getD, List.getD_eq_getElem?_getD, List.getElem?_append_left (by omega)]
    refine ⟨⟨Dsk.put_ok I.dok (by omega) (sectorM_len (bodyM_len hr.1)), ⟨r1, r2, r3⟩, I.hdr, by dsimp only; rw [hll]; omega, by dsimp only; rw [hll]; omega, by dsimp only; rw [hll]; omega, ?_, ?_, ?_, ?_, I.head, I.other, ?_, ?_, I.stale, ?_⟩, rfl, rfl, rfl⟩
    · intro i h
      dsimp only at h ⊢
      by_cases hi : i < J.held.length
      · rw [hget i hi]; exact I.seq i hi
      · have : i = J.held.length := by omega
        subst this
        rw [hgetn]
        rfl
    · intro x hx
      rcases List.mem_append.1 hx with hx | hx
      · exact I.right x hx
      · rw [List.mem_singleton.1 hx]; exact hr.1
    · intro i h
      dsimp only at h ⊢
      by_cases hi : i < J.held.length
      · rw [hget i hi, hlow i (by omega)]; exact I.gens i hi
      · have : i = J.held.length := by omega
        subst this
        rw [hgetn, hlow _ (Nat.le_refl _)]
        exact ⟨low_le I (Nat.le_refl _), Int.le_refl _⟩
    · intro i h hi
      dsimp only at h ⊢
      by_cases hi2 : i < J.held.length
      · rw [hget i hi2]; exact I.new i hi2 hi
      · have : i = J.held.length := by omega
        subst this
        rw [hgetn]
    · intro i h hi
      dsimp only at h ⊢
      rw [hget i (by omega)]
      exact I.durable i (by omega) hi
    · dsimp only
      rw [List.drop_append_of_le_length hfl, List.map_append, ← I.loose]
      rfl
    · dsimp only
      rw [hlow f hfl]
      exact I.stop
  · cases h
/-- all is fast -/
theorem JInv.flush (I : JInv J D f B) (hB : B + 2 ≤ widest) : JInv J D.flush J.held.length B := by
  obtain ⟨r1, r2, r3⟩ := I.ring
  have hlen := I.len
  have hfl := I.fle
  have hlenS : D.flush.S.length = D.S.length := Dsk.settle_len _ _
  have hrec : ∀ i (h : i < J.held.length), D.flush.S.getD (posM J.ring (J.hd.first + (i : Nat))) [] = secH J.held[i] := fun i h => by
    by_cases hif : i < f
    · exact I.atF _ h hif
    · unfold Dsk.flush
      rw [I.atL _ h (by omega), if_pos rfl]
  have hk0 : ∀ p, p < 2 → D.flush.S.getD p [] = D.S.getD p [] := fun p hp => I.keepHead _ hp
  refine ⟨Dsk.settle_ok I.dok _, ⟨r1, r2, by rw [hlenS]; exact r3⟩, I.hdr, I.bound, I.len, Nat.le_refl _, I.seq, I.right, I.gens, fun i h hi => by omega, ?_, ?_, fun i h _ => hrec i h, ?_, ?_, ?_⟩
  · rw [hk0 _ (by have := mod2 J.hd.turn I.hdr.1; omega)]; exact I.head
  · intro h' hh
    rw [hk0 _ (by have := mod2 J.hd.turn I.hdr.1; omega)] at hh
    exact I.other h' hh
  · rw [List.drop_eq_nil_of_le (Nat.le_refl _)]; rfl
  · intro q hq x hx
    rcases I.any (fun _ => true) (2 + q) with h | ⟨i, hi, hf, h⟩
    · have h' : D.flush.S.getD (2 + q) [] = D.S.getD (2 + q) [] := h
      rw [h'] at hx
      have := I.stale q hq x hx
      exact ⟨this.1, fun h2 => this.2 (by omega)⟩
    · have h' : D.flush.S.getD (2 + q) [] = secH J.held[i] := h
      rw [h', I.dec (by omega) hi] at hx
      cases hx
      have := I.seq i hi
      exact ⟨(I.gens i hi).2, fun h2 => by omega⟩
  · by_cases hr : J.held.length < J.ring
    · have := I.atN (fun _ => true) hr
      have h' : D.flush.S.getD (posM J.ring (J.hd.first + (J.held.length : Nat))) [] = D.S.getD (posM J.ring (J.hd.first + (J.held.length : Nat))) [] := this
      rw [h']
      exact I.stops (by omega) (Nat.le_refl _) hfl
    · have hfr : J.held.length = J.ring := by omega
      have h0 : 0 < J.held.length := by omega
      refine fits_none (fun x hx h1 h2 h3 => ?_)
      have := hrec 0 h0
      rw [hfr, pos_wrap] at hx
      rw [show J.hd.first + ((0 : Nat) : Int) = J.hd.first by omega] at this
      rw [this, I.dec (by omega) h0] at hx
      cases hx
      have := I.seq 0 h0
      omega
theorem flush_flush (D : Dsk) : D.flush.flush = D.flush := flush_nil rfl
/-- the first ones are dropped -/
theorem JInv.trim (I : JInv J D f B) (hB : B + 2 ≤ widest) {k : Int} {J' : Jrn} {D' : Dsk} (h : trimM J D k = .ok (J', D')) :
    (k = 0 ∧ J' = J ∧ D' = D) ∨ (0 < k ∧ k ≤ J.held.length ∧ J'.held = J.held.drop k.toNat ∧ J'.hd.first = J.hd.first + k ∧ J'.ring = J.ring ∧ JInv J' D' J'.held.length (B + 2) ∧ D'.W = []) := by
  unfold trimM at h
  split at h
  · cases h
  rename_i hk
  split at h
  · rename_i h0
    cases h
    exact .inl ⟨h0, rfl, rfl⟩
  rename_i h0
  cases h
  have I2 := I.flush hB
  obtain ⟨r1, r2, r3⟩ := I2.ring
  obtain ⟨t0, t1, t2, t3⟩ := I2.hdr
  have hlen := I2.len
  have hbd := I2.bound
  obtain ⟨n, rfl⟩ : ∃ n : Nat, k = n := ⟨k.toNat, by omega⟩
  rw [Int.toNat_natCast]
  have hn0 : 0 < n := by omega
  have hnl : n ≤ J.held.length := by omega
  have hlow1 : (J.held.getD (n - 1) (0, rec0)).1 = lowAt J.hd.low J.held n := by
    unfold lowAt; rw [if_neg (by omega)]
  rw [hlow1]
  have hlle := low_le I2 hnl
  have hlnn : 0 ≤ lowAt J.hd.low J.held n := by
    have hall : ∀ i, i ≤ J.held.length → 0 ≤ lowAt J.hd.low J.held i := by
      intro i
      induction i with
      | zero => intro _; exact t2
      | succ i ih =>
        intro hi
        rw [lowAt_succ _ _ (by omega)]
        have := ih (by omega)
        have := (I2.gens i (by omega)).1
        omega
    exact hall n hnl
  have hsv := save_S D.flush { J.hd with turn := J.hd.turn + 1, first := J.hd.first + (n : Int), low := lowAt J.hd.low J.held n }
  rw [flush_flush] at hsv
  have hsD : ∀ q, (saveM D.flush { J.hd with turn := J.hd.turn + 1, first := J.hd.first + (n : Int), low := lowAt J.hd.low J.held n }).S.getD (2 + q) [] = D.flush.S.getD (2 + q) [] := fun q => by
    rw [hsv.1, getD_set_ne (by dsimp only; omega)]
  have hsP : ∀ a, (saveM D.flush { J.hd with turn := J.hd.turn + 1, first := J.hd.first + (n : Int), low := lowAt J.hd.low J.held n }).S.getD (posM J.ring a) [] = D.flush.S.getD (posM J.ring a) [] := fun a => by
    rw [(pos_bd r1 a).2.2.1]; exact hsD _
  have hlt : (J.held.drop n).length = J.held.length - n := List.length_drop
  have hget : ∀ i (h : i < (J.held.drop n).length), (J.held.drop n)[i] = J.held[n + i]'(by omega) := fun i h => List.getElem_drop
  have hlow : ∀ i, i ≤ J.held.length - n → lowAt (lowAt J.hd.low J.held n) (J.held.drop n) i = lowAt J.hd.low J.held (n + i) := fun i hi => by
    cases i with
    | zero => rfl
    | succ i =>
      rw [lowAt_succ _ _ (by omega), hget, ← Nat.add_assoc, lowAt_succ _ _ (by omega)]
  have hf : J.hd.first + (n : Int) + ((J.held.drop n).length : Int) = J.hd.first + (J.held.length : Int) := by omega
  refine .inr ⟨by omega, by omega, rfl, rfl, rfl, ⟨save_ok I2.dok (by omega) _, ⟨r1, r2, by rw [save_len]; exact r3⟩, ⟨by dsimp only; omega, by dsimp only; omega, hlnn, hlle⟩, by dsimp only; omega, by dsimp only; omega, Nat.le_refl _, ?_, ?_, ?_, fun i h hi => by omega, ?_, ?_, ?_, ?_, ?_, ?_⟩, rfl⟩
  · intro i h
    dsimp only at h ⊢
    rw [hget i h, I2.seq]
    omega
  · intro x hx
    exact I2.right x (List.mem_of_mem_drop hx)
  · intro i h
    dsimp only at h ⊢
    rw [hget i h, hlow i (by omega)]
    exact I2.gens (n + i) (by omega)
  · dsimp only
    rw [hsv.1, getD_set_eq (by omega)]
  · intro h' hh
    dsimp only at hh ⊢
    rw [hsv.1] at hh
    have hh2 := headOf_headS (I.hok hB)
    rcases mod2 J.hd.turn t0 with ⟨e1, e2, e3, e4, e5, e6⟩ | ⟨e1, e2, e3, e4, e5, e6⟩
    · rw [e5, e6, e2, getD_set_ne (by decide)] at hh
      have := I2.head
      rw [e3] at this
      rw [this, hh2, e1, if_pos (by decide)] at hh
      cases hh
      omega
    · rw [e5, e6, e2, getD_set_ne (by decide)] at hh
      have := I2.head
      rw [e3] at this
      rw [this, hh2, e1, if_pos (by decide)] at hh
      cases hh
      omega
  · intro i h _
    dsimp only at h ⊢
    rw [hsP, hget i h, show J.hd.first + (n : Int) + (i : Int) = J.hd.first + ((n + i : Nat) : Int) by omega]
    exact I2.durable (n + i) (by omega) (by omega)
  · rw [hsv.2]
    dsimp only
    rw [List.drop_eq_nil_of_le (Nat.le_refl _)]
    rfl
  · intro q hq x hx
    dsimp only at hq ⊢
    rw [hsD] at hx
    have := I2.stale q hq x hx
    exact ⟨this.1, fun h2 => this.2 (by omega)⟩
  · dsimp only
    rw [hsP, hf, hlow _ (by omega), show n + (J.held.drop n).length = J.held.length by omega]
    exact I2.stop
end
/-- a journal on an empty disk -/
theorem JInv.fresh {n ring : Nat} (h1 : 1 ≤ ring) (h2 : ring ≤ 512) (h3 : 2 + ring ≤ n) (h4 : n ≤ 1024) :
    openM (Dsk.new n) ring = .ok (⟨ring, ⟨1, 1, 1, 0⟩, []⟩, saveM (Dsk.new n) ⟨1, 1, 1, 0⟩) ∧ JInv ⟨ring, ⟨1, 1, 1, 0⟩, []⟩ (saveM (Dsk.new n) ⟨1, 1, 1, 0⟩) 0 3 := by
  have hS : (Dsk.new n).S = List.replicate n zero64 := by
    unfold Dsk.new
    rw [show (max 0 (min (n : Int) 1024)).toNat = n by omega]
  have hget : ∀ p, p < n → (Dsk.new n).S.getD p [] = zero64 := fun p hp => by
    rw [hS, List.getD_eq_getElem?_getD, List.getElem?_replicate, if_pos hp]; rfl
  have hcur : ∀ p, p < n → (Dsk.new n).cur p = zero64 := fun p hp => hget p hp
  have hl : (Dsk.new n).S.length = n := by rw [hS]; exact List.length_replicate
  have hpb := fun a => pos_bd h1 a
  have hfz : ∀ s l g, fits zero64 s l g = none := fun s l g => fits_none fun x hx _ _ _ => decR_zero x hx
  have hscan : scanM (Dsk.new n) ring hd0 = [] := by
    have := scan_take (D := Dsk.new n) (ring := ring) (h := hd0) (held := []) (p := 0) (Nat.zero_le _) (Nat.le_refl _) (fun i hi => by omega) (fun _ => by
      rw [hcur _ (by have := hpb (hd0.first + ((0 : Nat) : Int)); omega)]; exact hfz _ _ _)
    exact this
  have hnew : newestM ((Dsk.new n).cur 0) ((Dsk.new n).cur 1) = some hd0 := by
    rw [hcur 0 (by omega), hcur 1 (by omega)]
    unfold newestM
    rw [headOf_zero, headOf_zero]
    dsimp only
    rw [if_pos ⟨rfl, rfl⟩]
  have hsv := save_S (Dsk.new n) ⟨1, 1, 1, 0⟩
  rw [flush_nil rfl] at hsv
  have hsD : ∀ q, q < ring → (saveM (Dsk.new n) ⟨1, 1, 1, 0⟩).S.getD (2 + q) [] = zero64 := fun q hq => by
    rw [hsv.1, getD_set_ne (by show (1 : Nat) ≠ 2 + q; omega)]; exact hget _ (by omega)
  refine ⟨?_, ⟨save_ok (Dsk.new_ok _) (by omega) _, ⟨h1, h2, by rw [save_len]; dsimp only; omega⟩, ⟨(by decide : (0 : Int) ≤ 1), (by decide : (1 : Int) ≤ 1), (by decide : (0 : Int) ≤ 0), (by decide : (0 : Int) ≤ 1)⟩, by simp, Nat.zero_le _, Nat.le_refl _, (fun i h => by simp at h), (fun x hx => by cases hx), (fun i h => by simp at h), (fun i h => by simp at h), ?_, ?_, (fun i h => by simp at h), rfl, ?_, ?_⟩⟩
  · unfold openM
    rw [if_neg (by rw [hl]; omega), hnew]
    dsimp only
    rw [Int.toNat_natCast, hscan]
    rfl
  · rw [hsv.1]
    exact getD_set_eq (by rw [hl]; show (1 : Nat) < n; omega)
  · intro h' hh
    have hh : headOf (((Dsk.new n).S.set 1 (headS ⟨1, 1, 1, 0⟩)).getD 0 []) 0 = some h' := by rw [hsv.1] at hh; exact hh
    rw [getD_set_ne (show (1 : Nat) ≠ 0 by decide), hget 0 (by omega), headOf_zero] at hh
    cases hh
  · intro q hq x hx
    rw [hsD q hq] at hx
    exact absurd hx (decR_zero x)
  · obtain ⟨_, _, e3, e4⟩ := hpb ((1 : Int) + ((0 : Nat) : Int))
    show fits ((saveM (Dsk.new n) ⟨1, 1, 1, 0⟩).S.getD (posM ring ((1 : Int) + ((0 : Nat) : Int))) []) _ _ _ = none
    rw [e3, hsD _ e4]
    exact hfz _ _ _
end Go.Proofs.YteednjcoapmkaaaGreatDoor
/- Contracts of functions of the given program, and plain laws on what they compute: parts of the proofs of laws. -/

namespace Go.Proofs.YteednjcoapmkaaaGreatDoor
open Go Go.GL

/-! the document's journal -/
theorem ret4 {G : Ctx} {env : Env} {L : List Assn} {p : Value → List Assn → Prop} {t u s r : Nat} {v x y z : Value} (h1 : Env.get env t = some (.val v)) (h2 : Env.get env u = some (.val x)) (h3 : Env.get env s = some (.val y)) (h4 : Env.get env r = some (.val z)) (h : p (.tuple #[v, x, y, z]) L) : retK G [.tmp t, .tmp u, .tmp s, .tmp r] p .ret env L :=
  ⟨[v, x, y, z], ⟨v, [x, y, z], rfl, h1, x, [y, z], rfl, h2, y, [z], rfl, h3, z, [], rfl, h4, rfl⟩, h⟩
theorem qheadBytes_ro (h : Hd) : RO G 86 [.int .i64 h.turn, .int .i64 h.first, .int .i64 h.gen, .int .i64 h.low] (fun _ => True) (.string (ba (headS h))) := by
  refine RO.enter Tryz.func86 rfl (by decide) rfl Tryz.ntmps86 rfl (fun A hu hA => ?_) (fun _ _ _ h => h)
  have hb := headB_len h
  have h1 := numB_nine h.turn
  have h2 := numB_nine h.first
  have h3 := numB_nine h.gen
  have h4 := numB_nine h.low
  have z1 := ba_size (numB (clampN h.turn))
  have z2 := ba_size (numB (clampN h.first))
  have z3 := ba_size (numB (clampN h.gen))
  have z4 := ba_size (numB (clampN h.low))
  repeat (first | refine GO ?_ | refine NW fun _ => ?_)
  refine WL.step rfl (OP.callRO rfl rfl (qnumber_ro h.turn) (fun _ _ => trivial) rfl rfl ?_)
  repeat (first | refine GO ?_ | refine NW fun _ => ?_)
  refine WL.step rfl (OP.callRO rfl rfl (qnumber_ro h.first) (fun _ _ => trivial) rfl rfl ?_)
  repeat (first | refine GO ?_ | refine NW fun _ => ?_)
  refine WL.step rfl (OP.callRO rfl rfl (qnumber_ro h.gen) (fun _ _ => trivial) rfl rfl ?_)
  repeat (first | refine GO ?_ | refine NW fun _ => ?_)
  refine WL.step rfl (OP.callRO rfl rfl (qnumber_ro h.low) (fun _ _ => trivial) rfl rfl ?_)
  repeat (first | refine GO ?_ | refine NW fun _ => ?_)
  rw [ba_app, ba_app, ba_app]
  have hsec := qsector_ro (headB h) hb
  rw [show headB h = numB (clampN h.turn) ++ numB (clampN h.first) ++ numB (clampN h.gen) ++ numB (clampN h.low) from rfl] at hsec
  refine WL.step rfl (OP.callRO rfl rfl hsec (fun _ _ => trivial) rfl rfl ?_)
  repeat (first | refine GO ?_ | refine NW fun _ => ?_)
  exact ret1 rfl ⟨rfl, MM⟩
def QHeadV (l : List UInt8) (slot : Int) : Value := match headOf l slot with
  | some h => .tuple #[.int .i64 h.turn, .int .i64 h.first, .int .i64 h.gen, .int .i64 h.low]
  | none => .tuple #[.int .i64 (-1), .int .i64 0, .int .i64 0, .int .i64 0]
set_option maxHeartbeats 4000000 in
set_option maxRecDepth 10000 in
theorem qhead_ro (l : List UInt8) (slot : Int) (hs : l.length < 100000) : RO G 55 [.string (ba l), .int .i64 slot] (fun _ => True) (QHeadV l slot) := by
  refine RO.enter Tryz.func55 rfl (by decide) rfl Tryz.ntmps55 rfl (fun A hu hA => ?_) (fun _ _ _ h => h)
  unfold QHeadV
  repeat (first | refine GD ?_ | refine NW fun _ => ?_)
  refine WL.step rfl (OP.callRO rfl rfl (qopen_ro l hs) (fun _ _ => trivial) rfl rfl ?_)
  unfold OpenQ
  by_cases ho : OpenOk l
  rotate_left
  · rw [if_neg ho]
    have hdec : headOf l slot = none := by unfold headOf; rw [if_neg (fun h => ho h.1)]
    rw [hdec]
    repeat (first | refine GD ?_ | refine NW fun _ => ?_)
    exact ret4 rfl rfl rfl rfl ⟨rfl, MM⟩
  rw [if_pos ho]
  have hdR : headOf l slot = if HdOk l slot (hd4 (l.take (l.length - 4), 0)).1 (hd4 (l.take (l.length - 4), 0)).2.2 then some (hd4 (l.take (l.length - 4), 0)).1 else none := by
    unfold headOf
    by_cases hk : HdOk l slot (hd4 (l.take (l.length - 4), 0)).1 (hd4 (l.take (l.length - 4), 0)).2.2
    · rw [if_pos ⟨ho, hk⟩, if_pos hk]
    · rw [if_neg (fun h => hk h.2), if_neg hk]
  have hl4 : (l.take (l.length - 4)).length < 1000000 := by rw [List.length_take]; omega
  generalize l.take (l.length - 4) = l4 at *
  repeat (first | refine GD ?_ | refine NW fun _ => ?_)
  rename_i r
  refine WL.imp (M := [qrd r (l4, 0), A]) (Imp.refl _) ?_
  unfold hd4 at hdR
  repeat (first | refine GD ?_ | refine NW fun _ => ?_)
  refine WL.step rfl (OP.call (pre := [qrd r (l4, 0)]) rfl rfl (qnum_ok r (l4, 0) (by first | exact hl4 | assumption)) PS rfl rfl ?_)
  rintro _ _ ⟨rfl, rfl⟩
  have by1 := numR_bd (l4, 0)
  have hly1 : (numR (l4, 0)).2.1.length < 1000000 := by
    refine Nat.lt_of_le_of_lt by1.1 ?_
    first | exact hl4 | assumption
  generalize numR (l4, 0) = y1 at *
  obtain ⟨xy1, sy1⟩ := y1
  dsimp only at by1 hly1 hdR ⊢
  repeat (first | refine GD ?_ | refine NW fun _ => ?_)
  refine WL.step rfl (OP.call (pre := [qrd r sy1]) rfl rfl (qnum_ok r sy1 (by first | exact hl4 | assumption)) PS rfl rfl ?_)
  rintro _ _ ⟨rfl, rfl⟩
  have by2 := numR_bd sy1
  have hly2 : (numR sy1).2.1.length < 1000000 := by
    refine Nat.lt_of_le_of_lt by2.1 ?_
    first | exact hl4 | assumption
  generalize numR sy1 = y2 at *
  obtain ⟨xy2, sy2⟩ := y2
  dsimp only at by2 hly2 hdR ⊢
  repeat (first | refine GD ?_ | refine NW fun _ => ?_)
  refine WL.step rfl (OP.call (pre := [qrd r sy2]) rfl rfl (qnum_ok r sy2 (by first | exact hl4 | assumption)) PS rfl rfl ?_)
  rintro _ _ ⟨rfl, rfl⟩
  have by3 := numR_bd sy2
  have hly3 : (numR sy2).2.1.length < 1000000 := by
    refine Nat.lt_of_le_of_lt by3.1 ?_
    first | exact hl4 | assumption
  generalize numR sy2 = y3 at *
  obtain ⟨xy3, sy3⟩ := y3
  dsimp only at by3 hly3 hdR ⊢
  repeat (first | refine GD ?_ | refine NW fun _ => ?_)
  refine WL.step rfl (OP.call (pre := [qrd r sy3]) rfl rfl (qnum_ok r sy3 (by first | exact hl4 | assumption)) PS rfl rfl ?_)
  rintro _ _ ⟨rfl, rfl⟩
  have by4 := numR_bd sy3
  have hly4 : (numR sy3).2.1.length < 1000000 := by
    refine Nat.lt_of_le_of_lt by4.1 ?_
    first | exact hl4 | assumption
  generalize numR sy3 = y4 at *
  obtain ⟨xy4, sy4⟩ := y4
  dsimp only at by4 hly4 hdR ⊢
  obtain ⟨ly4, ey4⟩ := sy4
  have hq4 : qrd r (ly4, ey4) = blk r [.string (ba ly4), .int .i64 ey4] 158 := rfl
  rw [hq4]
  dsimp only at hdR
  by_cases he : ey4 = 0
  rotate_left
  · have hdec : headOf l slot = none := by rw [hdR, if_neg (fun h => he h.1)]
    rw [hdec]
    repeat (first | refine GD ?_ | refine NW fun _ => ?_)
    exact ret4 rfl rfl rfl rfl ⟨rfl, MM⟩
  by_cases h1 : xy4 ≤ xy3
  rotate_left
  · have hdec : headOf l slot = none := by rw [hdR, if_neg (fun h => h1 h.2.1)]
    rw [hdec]
    repeat (first | refine GD ?_ | refine NW fun _ => ?_)
    exact ret4 rfl rfl rfl rfl ⟨rfl, MM⟩
  by_cases h2 : 0 < xy2
  rotate_left
  · have hdec : headOf l slot = none := by rw [hdR, if_neg (fun h => h2 h.2.2.1)]
    rw [hdec]
    repeat (first | refine GD ?_ | refine NW fun _ => ?_)
    exact ret4 rfl rfl rfl rfl ⟨rfl, MM⟩
  by_cases h3 : xy1 % 2 = slot
  rotate_left
  · have hdec : headOf l slot = none := by rw [hdR, if_neg (fun h => h3 h.2.2.2.1)]
    rw [hdec]
    repeat (first | refine GD ?_ | refine NW fun _ => ?_)
    exact ret4 rfl rfl rfl rfl ⟨rfl, MM⟩
  repeat (first | refine GD ?_ | refine NW fun _ => ?_)
  refine WL.guardT rfl rfl rfl rfl (OP.callRO rfl rfl (qheadBytes_ro ⟨xy1, xy2, xy3, xy4⟩) (fun _ _ => trivial) rfl rfl ?_)
  by_cases h4 : headS ⟨xy1, xy2, xy3, xy4⟩ = l
  · have hdec : headOf l slot = some ⟨xy1, xy2, xy3, xy4⟩ := by rw [hdR, if_pos ⟨he, h1, h2, h3, h4⟩]
    rw [hdec, h4]
    repeat (first | refine GD ?_ | refine NW fun _ => ?_)
    rw [decide_eq_true (rfl : ba l = ba l)]
    repeat (first | refine GD ?_ | refine NW fun _ => ?_)
    exact ret4 rfl rfl rfl rfl ⟨rfl, MM⟩
  · have hdec : headOf l slot = none := by rw [hdR, if_neg (fun h => h4 h.2.2.2.2)]
    have h4' : ¬ ba (headS ⟨xy1, xy2, xy3, xy4⟩) = ba l := fun h => h4 (ba_inj h)
    rw [hdec]
    generalize ba (headS ⟨xy1, xy2, xy3, xy4⟩) = hB at *
    repeat (first | refine GD ?_ | refine NW fun _ => ?_)
    exact ret4 rfl rfl rfl rfl ⟨rfl, MM⟩
end Go.Proofs.YteednjcoapmkaaaGreatDoor
/- Contracts of functions of the given program, and plain laws on what they compute: parts of the proofs of laws. -/
namespace Go.Proofs.YteednjcoapmkaaaGreatDoor
open Go Go.GL

/-! a volume: the plain model -/
/-- what a block's sector tells: the record's number, its data -/
abbrev Plc := Int × ByteArray
def plc0 : Plc := (0, ⟨#[]⟩)
def plcB (x : Plc) (block : Int) : List UInt8 := numB (clampN x.1) ++ numB (clampN block) ++ textB x.2
def plcS (x : Plc) (block : Int) : List UInt8 := sectorM (plcB x block)
/-- a place that is read -/
def pl3 (s : PR) : Plc × PR := (((numR s).1, (textR 16 (numR (numR s).2).2).1), (textR 16 (numR (numR s).2).2).2)
def PlcOk (b : List UInt8) (block : Int) (x : Plc) (e : Int) : Prop := e = 0 ∧ 0 < x.1 ∧ plcS x block = b
instance (b : List UInt8) (block : Int) (x : Plc) (e : Int) : Decidable (PlcOk b block x e) := by unfold PlcOk; infer_instance
def plcOf (b : List UInt8) (block : Int) : Option Plc :=
  if b = zero64 then some plc0
  else if OpenOk b ∧ PlcOk b block (pl3 (b.take (b.length - 4), 0)).1 (pl3 (b.take (b.length - 4), 0)).2.2 then some (pl3 (b.take (b.length - 4), 0)).1 else none
/-- a volume: its journal, what is laid, its blocks -/
structure Vol where
  J : Jrn
  laid : List Plc
  blks : List Plc
def takeV (l : List Plc) (r : Rec) : List Plc :=
  if r.2.1 = 1 ∧ (l.getD r.2.2.1.toNat plc0).1 < r.1 then l.set r.2.2.1.toNat (r.1, r.2.2.2.1) else l
def takeAll (l : List Plc) (h : List Held) : List Plc := h.foldl (fun s x => takeV s x.2) l
/-- the places that a disk tells, from a block on -/
def plcsF (D : Dsk) (ring : Nat) : Nat → List Plc → Option (List Plc)
  | 0, l => some l
  | k + 1, l => match plcOf (D.cur (2 + ring + l.length)) l.length with
    | some x => plcsF D ring k (l ++ [x])
    | none => none
def plcsM (D : Dsk) (ring : Nat) : Option (List Plc) := plcsF D ring 8 []
end Go.Proofs.YteednjcoapmkaaaGreatDoor
