/- Contracts of functions of the given program, and plain laws: parts of the proofs of laws. -/
import Derived.Test.YtleajkobmhhacaaGreatDoorZPQ4
import Derived.Test.YtleajkobmhhacaaGreatDoorZPQ7
/- Contracts of functions of the given program, and plain laws on what they compute: parts of the proofs of laws. -/
namespace Go.Proofs.YtleajkobmhhacaaGreatDoor
open Go Go.GL

/-- a journal's head: its turn, the first record's number, the generation, the low one -/
structure Hd where
  turn : Int
  first : Int
  gen : Int
  low : Int
def headB (h : Hd) : List UInt8 := numB (clampN h.turn) ++ numB (clampN h.first) ++ numB (clampN h.gen) ++ numB (clampN h.low)
def headS (h : Hd) : List UInt8 := sectorM (headB h)
theorem headB_len (h : Hd) : (headB h).length ≤ 60 := by
  have h1 := numB_nine h.turn
  have h2 := numB_nine h.first
  have h3 := numB_nine h.gen
  have h4 := numB_nine h.low
  unfold headB
  simp only [List.length_append]
  omega
theorem headS_len (h : Hd) : (headS h).length = 64 := sectorM_len (headB_len h)
/-- four numbers that are read -/
def hd4 (s : PR) : Hd × PR :=
  (⟨(numR s).1, (numR (numR s).2).1, (numR (numR (numR s).2).2).1, (numR (numR (numR (numR s).2).2).2).1⟩, (numR (numR (numR (numR s).2).2).2).2)
def HdOk (b : List UInt8) (slot : Int) (h : Hd) (e : Int) : Prop := e = 0 ∧ h.low ≤ h.gen ∧ 0 < h.first ∧ h.turn % 2 = slot ∧ headS h = b
instance (b : List UInt8) (slot : Int) (h : Hd) (e : Int) : Decidable (HdOk b slot h e) := by unfold HdOk; infer_instance
/-- the head that a sector tells -/
def headOf (b : List UInt8) (slot : Int) : Option Hd :=
  if OpenOk b ∧ HdOk b slot (hd4 (b.take (b.length - 4), 0)).1 (hd4 (b.take (b.length - 4), 0)).2.2 then some (hd4 (b.take (b.length - 4), 0)).1 else none
def hd0 : Hd := ⟨0, 1, 0, 0⟩
/-- the head that counts; none: the heads are spoilt -/
def newestM (a b : List UInt8) : Option Hd :=
  match headOf a 0, headOf b 1 with
  | some x, some y => if x.turn < y.turn then some y else some x
  | some x, none => some x
  | none, some y => some y
  | none, none => if a = zero64 ∧ b = zero64 then some hd0 else none
/-- a record that is held, and its generation -/
abbrev Held := Int × Rec
def posM (ring : Nat) (seq : Int) : Nat := 2 + (seq % ring).toNat
/-- is the record the next one? -/
def fits (b : List UInt8) (seq low gen : Int) : Option Held :=
  match decR b with
  | .ok (g, r) => if r.1 = seq ∧ low ≤ g ∧ g ≤ gen then some (g, r) else none
  | .error _ => none
def scanF (D : Dsk) (ring : Nat) (h : Hd) : Nat → List Held → Int → List Held
  | 0, l, _ => l
  | k + 1, l, low => match fits (D.cur (posM ring (h.first + l.length))) (h.first + l.length) low h.gen with
    | some x => scanF D ring h k (l ++ [x]) x.1
    | none => l
def scanM (D : Dsk) (ring : Nat) (h : Hd) : List Held := scanF D ring h ring [] h.low
/-- a journal: its ring, its head, what it holds -/
structure Jrn where
  ring : Nat
  hd : Hd
  held : List Held
def Jrn.next (J : Jrn) : Int := J.hd.first + J.held.length
def Hd.up (h : Hd) : Hd := { h with turn := h.turn + 1 }
/-- a head is saved -/
def saveM (D : Dsk) (h : Hd) : Dsk := (D.put (h.turn % 2).toNat (headS h)).flush
def openM (D : Dsk) (ring : Int) : Except Int (Jrn × Dsk) :=
  if ring < 1 ∨ 512 < ring ∨ (D.S.length : Int) < 2 + ring then .error 1
  else match newestM (D.cur 0) (D.cur 1) with
    | none => .error 4
    | some h => .ok (⟨ring.toNat, { h with gen := h.gen + 1, turn := h.turn + 1 }, scanM D ring.toNat h⟩, saveM D { h with gen := h.gen + 1, turn := h.turn + 1 })
def setSeq (r : Rec) (n : Int) : Rec := (n, r.2)
/-- Append: the error's numbers, outermost first; or the record is put behind -/
def appendM (J : Jrn) (D : Dsk) (r : Rec) : Except Int (Jrn × Dsk) :=
  if J.held.length = J.ring then .error 6
  else if RightR (setSeq r J.next) ∧ (0 ≤ J.hd.gen ∧ J.hd.gen ≤ widest) then
    .ok ({ J with held := J.held ++ [(J.hd.gen, setSeq r J.next)] }, D.put (posM J.ring J.next) (sectorM (bodyM J.hd.gen (setSeq r J.next))))
  else .error 1
def trimM (J : Jrn) (D : Dsk) (k : Int) : Except Int (Jrn × Dsk) :=
  if k < 0 ∨ (J.held.length : Int) < k then .error 1
  else if k = 0 then .ok (J, D)
  else .ok ({ J with hd := { J.hd with turn := J.hd.turn + 1, first := J.hd.first + k, low := (J.held.getD (k.toNat - 1) (0, rec0)).1 }, held := J.held.drop k.toNat },
    saveM D.flush { J.hd with turn := J.hd.turn + 1, first := J.hd.first + k, low := (J.held.getD (k.toNat - 1) (0, rec0)).1 })
end Go.Proofs.YtleajkobmhhacaaGreatDoor
/- Contracts of functions of the given program, and plain laws on what they compute: parts of the proofs of laws. -/
namespace Go.Proofs.YtleajkobmhhacaaGreatDoor
open Go Go.GL

theorem openOk_sector {l : List UInt8} (h : l.length ≤ 60) : OpenOk (sectorM l) ∧ (sectorM l).take ((sectorM l).length - 4) = padM l := by
  have h1 := sectorM_len h
  have h2 := padM_len h
  have e : (sectorM l).take ((sectorM l).length - 4) = padM l := by
    rw [h1]
    unfold sectorM
    exact List.take_left' h2
  have e2 : (sectorM l).drop ((sectorM l).length - 4) = tailM (padM l) := by
    rw [h1]
    unfold sectorM
    exact List.drop_left' h2
  exact ⟨⟨by omega, by rw [e, e2]⟩, e⟩
structure Hd.ok (h : Hd) : Prop where
  turn : 0 ≤ h.turn ∧ h.turn ≤ widest
  first : 1 ≤ h.first ∧ h.first ≤ widest
  low : 0 ≤ h.low ∧ h.low ≤ h.gen
  gen : h.gen ≤ widest
theorem hd4_pad {h : Hd} (k : h.ok) : hd4 (padM (headB h), 0) = (h, (List.replicate (60 - (headB h).length) 0, 0)) := by
  have e : padM (headB h) = numB (clampN h.turn) ++ (numB (clampN h.first) ++ (numB (clampN h.gen) ++ (numB (clampN h.low) ++ List.replicate (60 - (headB h).length) 0))) := by
    unfold padM
    generalize List.replicate (60 - (headB h).length) (0 : UInt8) = z
    unfold headB
    simp only [List.append_assoc]
  have h1 := k.turn
  have h2 := k.first
  have h3 := k.low
  have h4 := k.gen
  unfold hd4
  rw [e, numR_numB h1]
  dsimp only
  rw [numR_numB (by omega)]
  dsimp only
  rw [numR_numB (by omega)]
  dsimp only
  rw [numR_numB (by omega)]
theorem headOf_headS {h : Hd} (k : h.ok) (slot : Int) : headOf (headS h) slot = if h.turn % 2 = slot then some h else none := by
  obtain ⟨o1, o2⟩ := openOk_sector (headB_len h)
  have e : hd4 ((headS h).take ((headS h).length - 4), 0) = (h, (List.replicate (60 - (headB h).length) 0, 0)) := by
    unfold headS; rw [o2]; exact hd4_pad k
  unfold headOf
  rw [e]
  dsimp only
  have h1 := k.first
  have h2 := k.low
  by_cases hs : h.turn % 2 = slot
  · rw [if_pos hs, if_pos ⟨o1, rfl, h2.2, by omega, hs, rfl⟩]
  · rw [if_neg hs, if_neg (fun x => hs x.2.2.2.2.1)]
theorem readM_zero : (readM (List.replicate 60 0, 0)).1.2.2.1 = 0 := by decide
theorem decR_zero (x : Int × Rec) : decR zero64 ≠ .ok x := by
  intro h
  have hr := (decR_ok h).1
  unfold decR at h
  split at h
  · split at h
    · cases h
      have e : zero64.take 60 = List.replicate 60 0 := rfl
      rw [e] at hr
      obtain ⟨_, hk⟩ := hr
      have hz := readM_zero
      generalize (readM (List.replicate 60 0, 0)).1.2 = y at *
      omega
    · cases h
  · cases h
theorem hd4_zero : (hd4 (List.replicate 60 0, 0)).1.first = 0 := by decide
theorem headOf_zero (slot : Int) : headOf zero64 slot = none := by
  unfold headOf
  rw [if_neg]
  rintro ⟨_, _, _, h, _⟩
  have e : zero64.take (zero64.length - 4) = List.replicate 60 0 := rfl
  rw [e, hd4_zero] at h
  omega
theorem fits_some {b : List UInt8} {seq low gen : Int} {x : Held} (h : fits b seq low gen = some x) : decR b = .ok x ∧ x.2.1 = seq ∧ low ≤ x.1 ∧ x.1 ≤ gen := by
  unfold fits at h
  split at h
  · rename_i g r hd
    split at h
    · rename_i hc; cases h; exact ⟨hd, hc⟩
    · cases h
  · cases h
theorem fits_ok {b : List UInt8} {seq low gen : Int} {x : Held} (h : decR b = .ok x) (h1 : x.2.1 = seq) (h2 : low ≤ x.1) (h3 : x.1 ≤ gen) : fits b seq low gen = some x := by
  unfold fits
  rw [h]
  obtain ⟨g, r⟩ := x
  dsimp only at h1 h2 h3 ⊢
  rw [if_pos ⟨h1, h2, h3⟩]
theorem fits_none {b : List UInt8} {seq low gen : Int} (h : ∀ x, decR b = .ok x → x.2.1 = seq → low ≤ x.1 → x.1 ≤ gen → False) : fits b seq low gen = none := by
  cases hf : fits b seq low gen with
  | none => rfl
  | some x => obtain ⟨h1, h2, h3, h4⟩ := fits_some hf; exact (h x h1 h2 h3 h4).elim
/-- the generation that a record at a place must reach -/
def lowAt (low : Int) (held : List Held) (i : Nat) : Int := if i = 0 then low else (held.getD (i - 1) (0, rec0)).1
theorem lowAt_succ (low : Int) (held : List Held) {i : Nat} (h : i < held.length) : lowAt low held (i + 1) = held[i].1 := by
  unfold lowAt
  rw [if_neg (by omega), Nat.add_sub_cancel, List.getD_eq_getElem?_getD, List.getElem?_eq_getElem h]; rfl
/-- the scan finds just these -/
theorem scan_take {D : Dsk} {ring : Nat} {h : Hd} {held : List Held} {p : Nat} (hp : p ≤ ring) (hl : p ≤ held.length)
    (hit : ∀ i (hi : i < p), fits (D.cur (posM ring (h.first + i))) (h.first + i) (lowAt h.low held i) h.gen = some (held[i]'(by omega)))
    (stop : p < ring → fits (D.cur (posM ring (h.first + p))) (h.first + p) (lowAt h.low held p) h.gen = none) : scanM D ring h = held.take p := by
  have key : ∀ (k i : Nat), i ≤ p → k = ring - i → scanF D ring h k (held.take i) (lowAt h.low held i) = held.take p := by
    intro k
    induction k with
    | zero =>
      intro i hi hk
      have : i = p := by omega
      subst this; rfl
    | succ k ih =>
      intro i hi hk
      have hlen : (held.take i).length = i := by rw [List.length_take]; omega
      unfold scanF
      rw [hlen]
      by_cases hip : i < p
      · rw [hit i hip]
        dsimp only
        have := ih (i + 1) (by omega) (by omega)
        rw [lowAt_succ _ _ (by omega), List.take_succ_eq_append_getElem (by omega)] at this
        exact this
      · have : i = p := by omega
        subst this
        rw [stop (by omega)]
  exact key ring 0 (by omega) (by omega)
def secH (x : Held) : List UInt8 := sectorM (bodyM x.1 x.2)
/-- what holds of a journal and its disk: the first f records are fast -/
structure JInv (J : Jrn) (D : Dsk) (f : Nat) (B : Int) : Prop where
  dok : D.ok
  ring : 1 ≤ J.ring ∧ J.ring ≤ 512 ∧ 2 + J.ring ≤ D.S.length
  hdr : 0 ≤ J.hd.turn ∧ 1 ≤ J.hd.first ∧ 0 ≤ J.hd.low ∧ J.hd.low ≤ J.hd.gen
  bound : J.hd.turn + J.hd.gen + J.hd.first + J.held.length ≤ B
  len : J.held.length ≤ J.ring
  fle : f ≤ J.held.length
  seq : ∀ i (h : i < J.held.length), (J.held[i]).2.1 = J.hd.first + i
  right : ∀ x ∈ J.held, RightR x.2
  gens : ∀ i (h : i < J.held.length), lowAt J.hd.low J.held i ≤ (J.held[i]).1 ∧ (J.held[i]).1 ≤ J.hd.gen
  new : ∀ i (h : i < J.held.length), f ≤ i → (J.held[i]).1 = J.hd.gen
  head : D.S.getD (J.hd.turn % 2).toNat [] = headS J.hd
  other : ∀ h', headOf (D.S.getD (1 - J.hd.turn % 2).toNat []) (1 - J.hd.turn % 2) = some h' → h'.turn < J.hd.turn
  durable : ∀ i (h : i < J.held.length), i < f → D.S.getD (posM J.ring (J.hd.first + i)) [] = secH J.held[i]
  loose : D.W = (J.held.drop f).map (fun x => (posM J.ring x.2.1, secH x))
  stale : ∀ q, q < J.ring → ∀ x, decR (D.S.getD (2 + q) []) = .ok x → x.1 ≤ J.hd.gen ∧ (J.hd.first + f < x.2.1 → x.1 < J.hd.gen)
  stop : fits (D.S.getD (posM J.ring (J.hd.first + f)) []) (J.hd.first + f) (lowAt J.hd.low J.held f) J.hd.gen = none
theorem pos_inj {ring : Nat} (hr : 1 ≤ ring) {a b : Int} (h : posM ring a = posM ring b) (hab : a ≤ b) (hb : b < a + ring) : a = b := by
  unfold posM at h
  have h1 : a % ring = b % ring := by
    have := Int.emod_nonneg a (show (ring : Int) ≠ 0 by omega)
    have := Int.emod_nonneg b (show (ring : Int) ≠ 0 by omega)
    omega
  have h2 : (b - a) % ring = 0 := by rw [Int.sub_emod, h1]; simp
  obtain ⟨k, hk⟩ := Int.dvd_of_emod_eq_zero h2
  have hk0 : k = 0 := by
    rcases Int.lt_trichotomy k 0 with h | h | h
    · have : (ring : Int) * k ≤ ring * (-1) := Int.mul_le_mul_of_nonneg_left (by omega) (by omega)
      omega
    · exact h
    · have : (ring : Int) * 1 ≤ ring * k := Int.mul_le_mul_of_nonneg_left (by omega) (by omega)
      omega
  rw [hk0, Int.mul_zero] at hk
  omega
theorem pos_bd {ring : Nat} (hr : 1 ≤ ring) (a : Int) : 2 ≤ posM ring a ∧ posM ring a < 2 + ring ∧ posM ring a = 2 + (posM ring a - 2) ∧ posM ring a - 2 < ring := by
  unfold posM
  have := Int.emod_nonneg a (show (ring : Int) ≠ 0 by omega)
  have := Int.emod_lt_of_pos a (show (0 : Int) < ring by omega)
  omega
theorem pos_wrap {ring : Nat} (a : Int) : posM ring (a + ring) = posM ring a := by
  unfold posM
  rw [Int.add_emod_right]
/-- what a settled disk's sector is -/
theorem settle_other (kept : Nat → Bool) : ∀ (W : List (Nat × List UInt8)) (k : Nat) (S : List (List UInt8)) (p : Nat), (∀ x ∈ W, x.1 ≠ p) → (settleF kept k W S).getD p [] = S.getD p []
  | [], _, _, _, _ => rfl
  | x :: r, k, S, p, h => by
    rw [settleF, settle_other kept r (k + 1) _ p (fun y hy => h y (List.mem_cons_of_mem _ hy))]
    have := h x List.mem_cons_self
    split
    · rw [List.getD_eq_getElem?_getD, List.getD_eq_getElem?_getD, List.getElem?_set_ne this]
    · rfl
theorem settle_at (kept : Nat → Bool) : ∀ (W : List (Nat × List UInt8)) (k : Nat) (S : List (List UInt8)) (t : Nat) (ht : t < W.length), (∀ u (hu : u < W.length), u ≠ t → W[u].1 ≠ W[t].1) → W[t].1 < S.length →
    (settleF kept k W S).getD W[t].1 [] = if kept (k + t) = true then W[t].2 else S.getD W[t].1 []
  | x :: r, k, S, 0, _, h, hp => by
    rw [settleF]
    show (settleF kept (k + 1) r _).getD x.1 [] = _
    rw [settle_other kept r (k + 1) _ x.1 (fun y hy => by
      obtain ⟨u, hu, rfl⟩ := List.getElem_of_mem hy
      exact h (u + 1) (by simpa using hu) (by omega))]
    show _ = if kept (k + 0) = true then x.2 else S.getD x.1 []
    rw [Nat.add_zero]
    have hp' : x.1 < S.length := hp
    split
    · rw [List.getD_eq_getElem?_getD, List.getElem?_set_self hp']; rfl
    · rfl
  | x :: r, k, S, t + 1, ht, h, hp => by
    rw [settleF]
    have ht' : t < r.length := by simpa using ht
    have hx : x.1 ≠ r[t].1 := h 0 (by simp) (by omega)
    have hlen : (if kept k = true then S.set x.1 x.2 else S).length = S.length := by split <;> simp
    have := settle_at kept r (k + 1) (if kept k = true then S.set x.1 x.2 else S) t ht' (fun u hu hne => h (u + 1) (by simpa using hu) (by omega)) (by rw [hlen]; exact hp)
    show (settleF kept (k + 1) r _).getD r[t].1 [] = if kept (k + (t + 1)) = true then r[t].2 else S.getD r[t].1 []
    rw [this, show k + 1 + t = k + (t + 1) by omega]
    have e : (if kept k = true then S.set x.1 x.2 else S).getD r[t].1 [] = S.getD r[t].1 [] := by
      split
      · rw [List.getD_eq_getElem?_getD, List.getD_eq_getElem?_getD, List.getElem?_set_ne hx]
      · rfl
    rw [e]
end Go.Proofs.YtleajkobmhhacaaGreatDoor
/- Contracts of functions of the given program, and plain laws on what they compute: parts of the proofs of laws. -/
namespace Go.Proofs.YtleajkobmhhacaaGreatDoor
open Go Go.GL

section
variable {J : Jrn} {D : Dsk} {f : Nat} {B : Int}
theorem JInv.wlen (I : JInv J D f B) : D.W.length = J.held.length - f := by rw [I.loose, List.length_map, List.length_drop]
theorem JInv.wget (I : JInv J D f B) {t : Nat} (h : t < D.W.length) : ∃ h' : f + t < J.held.length, D.W[t] = (posM J.ring (J.hd.first + (f + t : Nat)), secH J.held[f + t]) := by
  have hl := I.wlen
  have h' : f + t < J.held.length := by omega
  refine ⟨h', ?_⟩
  have : D.W[t]? = some (posM J.ring (J.hd.first + (f + t : Nat)), secH J.held[f + t]) := by
    rw [I.loose, List.getElem?_map, List.getElem?_drop, List.getElem?_eq_getElem h', ← I.seq _ h']; rfl
  rw [List.getElem?_eq_getElem h] at this
  exact Option.some.inj this
theorem JInv.posne (I : JInv J D f B) {i j : Nat} (hi : i < J.ring) (hj : j < J.ring) (h : i ≠ j) : posM J.ring (J.hd.first + (i : Nat)) ≠ posM J.ring (J.hd.first + (j : Nat)) := by
  intro e
  rcases Nat.lt_or_gt_of_ne h with h1 | h1
  · have := pos_inj I.ring.1 e (by omega) (by omega); omega
  · have := pos_inj I.ring.1 e.symm (by omega) (by omega); omega
/-- sectors ahead of the ring, and those of no loose record, stay -/
theorem JInv.keep (I : JInv J D f B) (kept : Nat → Bool) {p : Nat} (h : ∀ i (_ : i < J.held.length), f ≤ i → posM J.ring (J.hd.first + (i : Nat)) ≠ p) : (D.settle kept).S.getD p [] = D.S.getD p [] := by
  refine settle_other kept D.W 0 D.S p (fun x hx => ?_)
  obtain ⟨t, ht, rfl⟩ := List.getElem_of_mem hx
  obtain ⟨h', e⟩ := I.wget ht
  rw [e]
  exact h _ h' (by omega)
theorem JInv.keepHead (I : JInv J D f B) (kept : Nat → Bool) {p : Nat} (hp : p < 2) : (D.settle kept).S.getD p [] = D.S.getD p [] :=
  I.keep kept fun i _ _ e => by have := (pos_bd I.ring.1 (J.hd.first + (i : Nat))).1; omega
theorem JInv.atF (I : JInv J D f B) (kept : Nat → Bool) {i : Nat} (h : i < J.held.length) (hf : i < f) : (D.settle kept).S.getD (posM J.ring (J.hd.first + (i : Nat))) [] = secH J.held[i] := by
  have hl := I.len
  rw [I.keep kept (fun j hj hfj => I.posne (by omega) (by omega) (by omega)), I.durable i h hf]
theorem JInv.atL (I : JInv J D f B) (kept : Nat → Bool) {i : Nat} (h : i < J.held.length) (hf : f ≤ i) : (D.settle kept).S.getD (posM J.ring (J.hd.first + (i : Nat))) [] = if kept (i - f) = true then secH J.held[i] else D.S.getD (posM J.ring (J.hd.first + (i : Nat))) [] := by
  have hl := I.len
  have hw := I.wlen
  have ht : i - f < D.W.length := by omega
  obtain ⟨h', e⟩ := I.wget ht
  have e2 : f + (i - f) = i := by omega
  have hpb := pos_bd I.ring.1 (J.hd.first + (i : Nat))
  have hlen := I.ring.2.2
  have := settle_at kept D.W 0 D.S (i - f) ht (fun u hu hne => by
    obtain ⟨hu', eu⟩ := I.wget hu
    rw [eu, e]
    exact I.posne (by omega) (by omega) (by omega)) (by rw [e]; simp only [e2]; omega)
  rw [e] at this
  simp only [e2, Nat.zero_add] at this
  exact this
theorem JInv.atN (I : JInv J D f B) (kept : Nat → Bool) (h : J.held.length < J.ring) : (D.settle kept).S.getD (posM J.ring (J.hd.first + (J.held.length : Nat))) [] = D.S.getD (posM J.ring (J.hd.first + (J.held.length : Nat))) [] :=
  I.keep kept fun i hi _ => I.posne (by omega) h (by omega)
/-- what a settled disk's ring holds -/
theorem JInv.any (I : JInv J D f B) (kept : Nat → Bool) (p : Nat) : (D.settle kept).S.getD p [] = D.S.getD p [] ∨ ∃ i, ∃ h : i < J.held.length, f ≤ i ∧ (D.settle kept).S.getD p [] = secH J.held[i] := by
  by_cases h : ∃ i, ∃ _ : i < J.held.length, f ≤ i ∧ posM J.ring (J.hd.first + (i : Nat)) = p
  · obtain ⟨i, hi, hf, rfl⟩ := h
    rw [I.atL kept hi hf]
    by_cases hk : kept (i - f) = true
    · rw [if_pos hk]; exact .inr ⟨i, hi, hf, rfl⟩
    · rw [if_neg hk]; exact .inl rfl
  · exact .inl (I.keep kept fun i hi hf e => h ⟨i, hi, hf, e⟩)
theorem JInv.dec (I : JInv J D f B) (hB : B ≤ widest) {i : Nat} (h : i < J.held.length) : decR (secH J.held[i]) = .ok J.held[i] := by
  have h1 := I.right _ (List.getElem_mem h)
  have h2 := I.gens i h
  have h3 := I.hdr
  have h4 := I.bound
  have hlow : 0 ≤ lowAt J.hd.low J.held i := by
    clear h2
    induction i with
    | zero => exact h3.2.2.1
    | succ i ih =>
      have hi : i < J.held.length := by omega
      rw [lowAt_succ _ _ hi]
      have := ih hi (I.right _ (List.getElem_mem hi))
      have := (I.gens i hi).1
      omega
  exact decR_enc h1 ⟨by omega, by omega⟩
theorem low_le (I : JInv J D f B) {i : Nat} (h : i ≤ J.held.length) : lowAt J.hd.low J.held i ≤ J.hd.gen := by
  cases i with
  | zero => exact I.hdr.2.2.2
  | succ i => rw [lowAt_succ _ _ (by omega)]; exact (I.gens i (by omega)).2
theorem JInv.lowAt_new (I : JInv J D f B) {i : Nat} (h : i ≤ J.held.length) (hf : f < i) : lowAt J.hd.low J.held i = J.hd.gen := by
  obtain ⟨k, rfl⟩ : ∃ k, i = k + 1 := ⟨i - 1, by omega⟩
  rw [lowAt_succ _ _ (by omega)]
  exact I.new k (by omega) (by omega)
/-- nothing further is found where the disk is as it was -/
theorem JInv.stops (I : JInv J D f B) (_ : B ≤ widest) {p : Nat} (hp : p ≤ J.held.length) (hf : f ≤ p) : fits (D.S.getD (posM J.ring (J.hd.first + (p : Nat))) []) (J.hd.first + (p : Nat)) (lowAt J.hd.low J.held p) J.hd.gen = none := by
  by_cases h : f = p
  · subst h; exact I.stop
  · refine fits_none (fun x hx h1 h2 h3 => ?_)
    obtain ⟨_, _, e3, e4⟩ := pos_bd I.ring.1 (J.hd.first + (p : Nat))
    rw [e3] at hx
    have := (I.stale _ e4 x hx).2 (by omega)
    rw [I.lowAt_new hp (by omega)] at h2
    omega
/-- how many of the loose records are kept, without a gap -/
def leadK (kept : Nat → Bool) : Nat → Nat → Nat
  | 0, _ => 0
  | n + 1, k => if kept k = true then leadK kept n (k + 1) + 1 else 0
theorem leadK_le (kept : Nat → Bool) : ∀ n k, leadK kept n k ≤ n
  | 0, _ => Nat.le_refl _
  | n + 1, k => by unfold leadK; split; have := leadK_le kept n (k + 1); omega; omega
theorem leadK_hit (kept : Nat → Bool) : ∀ n k j, j < leadK kept n k → kept (k + j) = true
  | 0, _, _, h => by simp [leadK] at h
  | n + 1, k, j, h => by
    unfold leadK at h
    split at h
    · rename_i hk
      cases j with
      | zero => exact hk
      | succ j => have := leadK_hit kept n (k + 1) j (by omega); rwa [show k + 1 + j = k + (j + 1) by omega] at this
    · omega
theorem leadK_miss (kept : Nat → Bool) : ∀ n k, leadK kept n k < n → kept (k + leadK kept n k) = false
  | 0, _, h => by omega
  | n + 1, k, h => by
    unfold leadK at h ⊢
    split
    · rename_i hk
      rw [if_pos hk] at h
      have := leadK_miss kept n (k + 1) (by omega)
      rwa [show k + 1 + leadK kept n (k + 1) = k + (leadK kept n (k + 1) + 1) by omega] at this
    · rename_i hk; simpa using hk
theorem JInv.hok (I : JInv J D f B) (hB : B + 2 ≤ widest) : J.hd.ok := by
  have h1 := I.hdr
  have h2 := I.bound
  exact ⟨by omega, by omega, by omega, by omega⟩
theorem mod2 (t : Int) (_ : 0 ≤ t) : (t % 2 = 0 ∧ (t + 1) % 2 = 1 ∧ (t % 2).toNat = 0 ∧ (1 - t % 2).toNat = 1 ∧ ((t + 1) % 2).toNat = 1 ∧ (1 - (t + 1) % 2).toNat = 0) ∨ (t % 2 = 1 ∧ (t + 1) % 2 = 0 ∧ (t % 2).toNat = 1 ∧ (1 - t % 2).toNat = 0 ∧ ((t + 1) % 2).toNat = 0 ∧ (1 - (t + 1) % 2).toNat = 1) := by omega
theorem JInv.newest (I : JInv J D f B) (hB : B + 2 ≤ widest) {a b : List UInt8} (ha : a = D.S.getD 0 []) (hb : b = D.S.getD 1 []) : newestM a b = some J.hd := by
  have hk := I.hok hB
  have h1 := headOf_headS hk
  have hh := I.head
  have ho := I.other
  have hz0 : headOf (headS J.hd) (J.hd.turn % 2) = some J.hd := by rw [h1, if_pos rfl]
  subst ha hb
  unfold newestM
  rcases mod2 J.hd.turn I.hdr.1 with ⟨e1, _, e3, e4, _, _⟩ | ⟨e1, _, e3, e4, _, _⟩
  · rw [e3] at hh
    rw [e4, e1] at ho
    rw [e1] at hz0
    rw [hh, hz0]
    cases hy : headOf (D.S.getD 1 []) 1 with
    | none => rfl
    | some y =>
      have := ho y hy
      dsimp only
      rw [if_neg (by omega)]
  · rw [e3] at hh
    rw [e4, e1] at ho
    rw [e1] at hz0
    rw [hh, hz0]
    cases hy : headOf (D.S.getD 0 []) 0 with
    | none => rfl
    | some y =>
      have := ho y hy
      dsimp only
      rw [if_pos (by omega)]
theorem save_S (D : Dsk) (h : Hd) : (saveM D h).S = (D.flush).S.set (h.turn % 2).toNat (headS h) ∧ (saveM D h).W = [] := by
  refine ⟨?_, rfl⟩
  show settleF (fun _ => true) 0 (D.W ++ [((h.turn % 2).toNat, headS h)]) D.S = _
  rw [settleF_snoc, if_pos rfl]
  rfl
theorem flush_nil {D : Dsk} (h : D.W = []) : D.flush = D := by
  obtain ⟨S, W⟩ := D
  dsimp only at h
  subst h
  rfl
theorem getD_set_ne {S : List (List UInt8)} {i p : Nat} {x : List UInt8} (h : i ≠ p) : (S.set i x).getD p [] = S.getD p [] := by
  rw [List.getD_eq_getElem?_getD, List.getD_eq_getElem?_getD, List.getElem?_set_ne h]
theorem getD_set_eq {S : List (List UInt8)} {i : Nat} {x : List UInt8} (h : i < S.length) : (S.set i x).getD i [] = x := by
  rw [List.getD_eq_getElem?_getD, List.getElem?_set_self h]; rfl
theorem save_ok {D : Dsk} (h : D.ok) (hl : 2 ≤ D.S.length) (x : Hd) : (saveM D x).ok := by
  unfold saveM
  exact Dsk.settle_ok (Dsk.put_ok h (by omega) (headS_len x)) _
theorem save_len (D : Dsk) (x : Hd) : (saveM D x).S.length = D.S.length := Dsk.settle_len _ _
/-- BEHIND A CRASH what was fast is held, and of what wasn't the first ones alone; the journal goes on -/
theorem JInv.crash (I : JInv J D f B) (hB : B + 2 ≤ widest) (kept : Nat → Bool) : ∃ p, f ≤ p ∧ p ≤ J.held.length ∧ (∀ n, (∀ k, kept k = true) → n = J.held.length → p = n) ∧
    openM (D.settle kept) J.ring = .ok (⟨J.ring, { J.hd with gen := J.hd.gen + 1, turn := J.hd.turn + 1 }, J.held.take p⟩, saveM (D.settle kept) { J.hd with gen := J.hd.gen + 1, turn := J.hd.turn + 1 }) ∧
    JInv ⟨J.ring, { J.hd with gen := J.hd.gen + 1, turn := J.hd.turn + 1 }, J.held.take p⟩ (saveM (D.settle kept) { J.hd with gen := J.hd.gen + 1, turn := J.hd.turn + 1 }) p (B + 2) := by
  obtain ⟨r1, r2, r3⟩ := I.ring
  have hlen := I.len
  have hfl := I.fle
  obtain ⟨t0, t1, t2, t3⟩ := I.hdr
  have hbd := I.bound
  obtain ⟨n, hn⟩ : ∃ n, n = leadK kept (J.held.length - f) 0 := ⟨_, rfl⟩
  have hn1 := leadK_le kept (J.held.length - f) 0
  have hn2 : ∀ j, j < n → kept j = true := fun j hj => by have := leadK_hit kept (J.held.length - f) 0 j (by omega); rwa [Nat.zero_add] at this
  have hn3 : n < J.held.length - f → kept n = false := fun h => by have := leadK_miss kept (J.held.length - f) 0 (by omega); rwa [Nat.zero_add, ← hn] at this
  have hW : (D.settle kept).W = [] := rfl
  have hcur : ∀ i, (D.settle kept).cur i = (D.settle kept).S.getD i [] := fun i => rfl
  have hlenS : (D.settle kept).S.length = D.S.length := Dsk.settle_len _ _
  have hrec : ∀ i (h : i < J.held.length), i < f + n → (D.settle kept).S.getD (posM J.ring (J.hd.first + (i : Nat))) [] = secH J.held[i] := fun i h hi => by
    by_cases hif : i < f
    · exact I.atF kept h hif
    · rw [I.atL kept h (by omega), if_pos (hn2 _ (by omega))]
  have hstop : f + n < J.ring → fits ((D.settle kept).S.getD (posM J.ring (J.hd.first + (f + n : Nat))) []) (J.hd.first + (f + n : Nat)) (lowAt J.hd.low J.held (f + n)) J.hd.gen = none := fun h => by
    by_cases hL : f + n < J.held.length
    · rw [I.atL kept hL (by omega), show f + n - f = n by omega, if_neg (by rw [hn3 (by omega)]; decide)]
      exact I.stops (by omega) (by omega) (by omega)
    · have : f + n = J.held.length := by omega
      rw [this, I.atN kept (by omega)]
      exact I.stops (by omega) (Nat.le_refl _) (by omega)
  have hscan : scanM (D.settle kept) J.ring J.hd = J.held.take (f + n) := by
    refine scan_take (by omega) (by omega) (fun i hi => ?_) (fun h => ?_)
    · rw [hcur, hrec i (by omega) hi]
      exact fits_ok (I.dec (by omega) (by omega)) (I.seq i (by omega)) (I.gens i (by omega)).1 (I.gens i (by omega)).2
    · rw [hcur]; exact hstop h
  have hnew : newestM ((D.settle kept).cur 0) ((D.settle kept).cur 1) = some J.hd :=
    I.newest hB (by rw [hcur]; exact I.keepHead kept (by decide)) (by rw [hcur]; exact I.keepHead kept (by decide))
  have hsv := save_S (D.settle kept) { J.hd with gen := J.hd.gen + 1, turn := J.hd.turn + 1 }
  rw [flush_nil hW] at hsv
  have hsD : ∀ q, (saveM (D.settle kept) { J.hd with gen := J.hd.gen + 1, turn := J.hd.turn + 1 }).S.getD (2 + q) [] = (D.settle kept).S.getD (2 + q) [] := fun q => by
    rw [hsv.1, getD_set_ne (by dsimp only; omega)]
  have hsP : ∀ a, (saveM (D.settle kept) { J.hd with gen := J.hd.gen + 1, turn := J.hd.turn + 1 }).S.getD (posM J.ring a) [] = (D.settle kept).S.getD (posM J.ring a) [] := fun a => by
    rw [(pos_bd r1 a).2.2.1]; exact hsD _
  have hlt : (J.held.take (f + n)).length = f + n := by rw [List.length_take]; omega
  have hget : ∀ i (h : i < (J.held.take (f + n)).length), (J.held.take (f + n))[i] = J.held[i]'(by omega) := fun i h => List.getElem_take
  have hlow : ∀ i, i ≤ f + n → lowAt J.hd.low (J.held.take (f + n)) i = lowAt J.hd.low J.held i := fun i hi => by
    unfold lowAt
    split
    · rfl
    · rw [List.getD_eq_getElem?_getD, List.getD_eq_getElem?_getD, List.getElem?_take, if_pos (by omega)]
  refine ⟨f + n, by omega, by omega, fun m hk hm => ?_, ?_, ?_⟩
  · by_cases h : n < J.held.length - f
    · have := hn3 h; rw [hk] at this; cases this
    · omega
  · unfold openM
    rw [if_neg (by rw [hlenS]; omega), hnew]
    dsimp only
    rw [Int.toNat_natCast, hscan]
  · refine ⟨save_ok (Dsk.settle_ok I.dok kept) (by rw [hlenS]; omega) _, ⟨r1, r2, by rw [save_len, hlenS]; exact r3⟩, ⟨by dsimp only; omega, t1, t2, by dsimp only; omega⟩, by dsimp only; rw [hlt]; omega, by dsimp only; rw [hlt]; omega, by dsimp only; rw [hlt]; exact Nat.le_refl _, ?_, ?_, ?_, ?_, ?_, ?_, ?_, ?_, ?_, ?_⟩
    · intro i h
      rw [hget i h]
      exact I.seq i _
    · intro x hx
      exact I.right x (List.mem_of_mem_take hx)
    · intro i h
      dsimp only at h ⊢
      rw [hget i h, hlow i (by omega)]
      have := I.gens i (by omega)
      exact ⟨this.1, by omega⟩
    · intro i h hi
      dsimp only at h
      omega
    · dsimp only
      rw [hsv.1, getD_set_eq (by rw [hlenS]; dsimp only; omega)]
    · intro h' hh
      dsimp only at hh ⊢
      rw [hsv.1] at hh
      rcases mod2 J.hd.turn t0 with ⟨e1, e2, e3, e4, e5, e6⟩ | ⟨e1, e2, e3, e4, e5, e6⟩
      · rw [e5, e6, e2, getD_set_ne (by decide), I.keepHead kept (by decide)] at hh
        have := I.head
        rw [e3] at this
        rw [this, headOf_headS (I.hok hB), e1, if_pos (by decide)] at hh
        cases hh
        omega
      · rw [e5, e6, e2, getD_set_ne (by decide), I.keepHead kept (by decide)] at hh
        have := I.head
        rw [e3] at this
        rw [this, headOf_headS (I.hok hB), e1, if_pos (by decide)] at hh
        cases hh
        omega
    · intro i h hi
      dsimp only at h ⊢
      rw [hsP, hget i h, hrec i (by omega) (by omega)]
    · rw [hsv.2]
      dsimp only
      rw [List.drop_eq_nil_of_le (by rw [hlt]; exact Nat.le_refl _)]
      rfl
    · intro q hq x hx
      dsimp only at hq ⊢
      rw [hsD] at hx
      have hg : x.1 ≤ J.hd.gen := by
        rcases I.any kept (2 + q) with h | ⟨i, hi, _, h⟩
        · rw [h] at hx
          exact (I.stale q hq x hx).1
        · rw [h, I.dec (by omega) hi] at hx
          cases hx
          exact (I.gens i hi).2
      exact ⟨by omega, fun _ => by omega⟩
    · dsimp only
      rw [hsP]
      rw [hlow _ (Nat.le_refl _)]
      refine fits_none (fun x hx h1 h2 h3 => ?_)
      by_cases hr : f + n < J.ring
      · have hno := hstop hr
        obtain ⟨_, _, e3, e4⟩ := pos_bd r1 (J.hd.first + ((f + n : Nat) : Int))
        have hg : x.1 ≤ J.hd.gen := by
          rcases I.any kept (posM J.ring (J.hd.first + ((f + n : Nat) : Int))) with h | ⟨i, hi, _, h⟩
          · rw [h, e3] at hx
            exact (I.stale _ e4 x hx).1
          · rw [h, I.dec (by omega) hi] at hx
            cases hx
            exact (I.gens i hi).2
        rw [fits_ok hx h1 h2 hg] at hno
        cases hno
      · have hfr : f + n = J.ring := by omega
        have h0 : 0 < J.held.length := by omega
        have := hrec 0 h0 (by omega)
        rw [hfr, pos_wrap] at hx
        rw [show J.hd.first + ((0 : Nat) : Int) = J.hd.first by omega] at this
        rw [this, I.dec (by omega) h0] at hx
        cases hx
        have := I.seq 0 h0
        omega
end
end Go.Proofs.YtleajkobmhhacaaGreatDoor
/- Contracts of functions of the given program, and plain laws on what they compute: parts of the proofs of laws. -/
namespace Go.Proofs.YtleajkobmhhacaaGreatDoor
open Go Go.GL

section
variable {J : Jrn} {D : Dsk} {f : Nat} {B : Int}
/-- a record is put behind -/
theorem JInv.append (I : JInv J D f B) {r : Rec} {J' : Jrn} {D' : Dsk} (h : appendM J D r = .ok (J', D')) : JInv J' D' f (B + 2) ∧ J'.hd = J.hd ∧ J'.ring = J.ring ∧ J'.held = J.held ++ [(J.hd.gen, setSeq r J.next)] := by
  unfold appendM at h
  split at h
  · cases h
  rename_i hfull
  split at h
  · rename_i hr
    cases h
    obtain ⟨r1, r2, r3⟩ := I.ring
    have hlen := I.len
    have hfl := I.fle
    have hbd := I.bound
    have hpb := pos_bd r1 J.next
    have hll : (J.held ++ [(J.hd.gen, setSeq r J.next)]).length = J.held.length + 1 := by simp
    have hget : ∀ i (h : i < J.held.length), (J.held ++ [(J.hd.gen, setSeq r J.next)])[i]'(by omega) = J.held[i] := fun i h => List.getElem_append_left h
    have hgetn : (J.held ++ [(J.hd.gen, setSeq r J.next)])[J.held.length]'(by omega) = (J.hd.gen, setSeq r J.next) := by simp
    have hlow : ∀ i, i ≤ J.held.length → lowAt J.hd.low (J.held ++ [(J.hd.gen, setSeq r J.next)]) i = lowAt J.hd.low J.held i := fun i hi => by
      unfold lowAt
      split
      · rfl
      · rw [List.getD_eq_getElem?_getD, List.getD_eq_getElem?_getD, List.getElem?_append_left (by omega)]
    refine ⟨⟨Dsk.put_ok I.dok (by omega) (sectorM_len (bodyM_len hr.1)), ⟨r1, r2, r3⟩, I.hdr, by dsimp only; rw [hll]; omega, by dsimp only; rw [hll]; omega, by dsimp only; rw [hll]; omega, ?_, ?_, ?_, ?_, I.head, I.other, ?_, ?_, I.stale, ?_⟩, rfl, rfl, rfl⟩
    · intro i h
      dsimp only at h ⊢
      by_cases hi : i < J.held.length
      · rw [hget i hi]; exact I.seq i hi
      · have : i = J.held.length := by omega
        subst this
        rw [hgetn]
        rfl
    · intro x hx
      rcases List.mem_append.1 hx with hx | hx
      · exact I.right x hx
      · rw [List.mem_singleton.1 hx]; exact hr.1
    · intro i h
      dsimp only at h ⊢
      by_cases hi : i < J.held.length
      · rw [hget i hi, hlow i (by omega)]; exact I.gens i hi
      · have : i = J.held.length := by omega
        subst this
        rw [hgetn, hlow _ (Nat.le_refl _)]
        exact ⟨low_le I (Nat.le_refl _), Int.le_refl _⟩
    · intro i h hi
      dsimp only at h ⊢
      by_cases hi2 : i < J.held.length
      · rw [hget i hi2]; exact I.new i hi2 hi
      · have : i = J.held.length := by omega
        subst this
        rw [hgetn]
    · intro i h hi
      dsimp only at h ⊢
      rw [hget i (by omega)]
      exact I.durable i (by omega) hi
    · dsimp only
      rw [List.drop_append_of_le_length hfl, List.map_append, ← I.loose]
      rfl
    · dsimp only
      rw [hlow f hfl]
      exact I.stop
  · cases h
/-- all is fast -/
theorem JInv.flush (I : JInv J D f B) (hB : B + 2 ≤ widest) : JInv J D.flush J.held.length B := by
  obtain ⟨r1, r2, r3⟩ := I.ring
  have hlen := I.len
  have hfl := I.fle
  have hlenS : D.flush.S.length = D.S.length := Dsk.settle_len _ _
  have hrec : ∀ i (h : i < J.held.length), D.flush.S.getD (posM J.ring (J.hd.first + (i : Nat))) [] = secH J.held[i] := fun i h => by
    by_cases hif : i < f
    · exact I.atF _ h hif
    · unfold Dsk.flush
      rw [I.atL _ h (by omega), if_pos rfl]
  have hk0 : ∀ p, p < 2 → D.flush.S.getD p [] = D.S.getD p [] := fun p hp => I.keepHead _ hp
  refine ⟨Dsk.settle_ok I.dok _, ⟨r1, r2, by rw [hlenS]; exact r3⟩, I.hdr, I.bound, I.len, Nat.le_refl _, I.seq, I.right, I.gens, fun i h hi => by omega, ?_, ?_, fun i h _ => hrec i h, ?_, ?_, ?_⟩
  · rw [hk0 _ (by have := mod2 J.hd.turn I.hdr.1; omega)]; exact I.head
  · intro h' hh
    rw [hk0 _ (by have := mod2 J.hd.turn I.hdr.1; omega)] at hh
    exact I.other h' hh
  · rw [List.drop_eq_nil_of_le (Nat.le_refl _)]; rfl
  · intro q hq x hx
    rcases I.any (fun _ => true) (2 + q) with h | ⟨i, hi, hf, h⟩
    · have h' : D.flush.S.getD (2 + q) [] = D.S.getD (2 + q) [] := h
      rw [h'] at hx
      have := I.stale q hq x hx
      exact ⟨this.1, fun h2 => this.2 (by omega)⟩
    · have h' : D.flush.S.getD (2 + q) [] = secH J.held[i] := h
      rw [h', I.dec (by omega) hi] at hx
      cases hx
      have := I.seq i hi
      exact ⟨(I.gens i hi).2, fun h2 => by omega⟩
  · by_cases hr : J.held.length < J.ring
    · have := I.atN (fun _ => true) hr
      have h' : D.flush.S.getD (posM J.ring (J.hd.first + (J.held.length : Nat))) [] = D.S.getD (posM J.ring (J.hd.first + (J.held.length : Nat))) [] := this
      rw [h']
      exact I.stops (by omega) (Nat.le_refl _) hfl
    · have hfr : J.held.length = J.ring := by omega
      have h0 : 0 < J.held.length := by omega
      refine fits_none (fun x hx h1 h2 h3 => ?_)
      have := hrec 0 h0
      rw [hfr, pos_wrap] at hx
      rw [show J.hd.first + ((0 : Nat) : Int) = J.hd.first by omega] at this
      rw [this, I.dec (by omega) h0] at hx
      cases hx
      have := I.seq 0 h0
      omega
theorem flush_flush (D : Dsk) : D.flush.flush = D.flush := flush_nil rfl
/-- the first ones are dropped -/
theorem JInv.trim (I : JInv J D f B) (hB : B + 2 ≤ widest) {k : Int} {J' : Jrn} {D' : Dsk} (h : trimM J D k = .ok (J', D')) :
    (k = 0 ∧ J' = J ∧ D' = D) ∨ (0 < k ∧ k ≤ J.held.length ∧ J'.held = J.held.drop k.toNat ∧ J'.hd.first = J.hd.first + k ∧ J'.ring = J.ring ∧ JInv J' D' J'.held.length (B + 2) ∧ D'.W = []) := by
  unfold trimM at h
  split at h
  · cases h
  rename_i hk
  split at h
  · rename_i h0
    cases h
    exact .inl ⟨h0, rfl, rfl⟩
  rename_i h0
  cases h
  have I2 := I.flush hB
  obtain ⟨r1, r2, r3⟩ := I2.ring
  obtain ⟨t0, t1, t2, t3⟩ := I2.hdr
  have hlen := I2.len
  have hbd := I2.bound
  obtain ⟨n, rfl⟩ : ∃ n : Nat, k = n := ⟨k.toNat, by omega⟩
  rw [Int.toNat_natCast]
  have hn0 : 0 < n := by omega
  have hnl : n ≤ J.held.length := by omega
  have hlow1 : (J.held.getD (n - 1) (0, rec0)).1 = lowAt J.hd.low J.held n := by
    unfold lowAt; rw [if_neg (by omega)]
  rw [hlow1]
  have hlle := low_le I2 hnl
  have hlnn : 0 ≤ lowAt J.hd.low J.held n := by
    have hall : ∀ i, i ≤ J.held.length → 0 ≤ lowAt J.hd.low J.held i := by
      intro i
      induction i with
      | zero => intro _; exact t2
      | succ i ih =>
        intro hi
        rw [lowAt_succ _ _ (by omega)]
        have := ih (by omega)
        have := (I2.gens i (by omega)).1
        omega
    exact hall n hnl
  have hsv := save_S D.flush { J.hd with turn := J.hd.turn + 1, first := J.hd.first + (n : Int), low := lowAt J.hd.low J.held n }
  rw [flush_flush] at hsv
  have hsD : ∀ q, (saveM D.flush { J.hd with turn := J.hd.turn + 1, first := J.hd.first + (n : Int), low := lowAt J.hd.low J.held n }).S.getD (2 + q) [] = D.flush.S.getD (2 + q) [] := fun q => by
    rw [hsv.1, getD_set_ne (by dsimp only; omega)]
  have hsP : ∀ a, (saveM D.flush { J.hd with turn := J.hd.turn + 1, first := J.hd.first + (n : Int), low := lowAt J.hd.low J.held n }).S.getD (posM J.ring a) [] = D.flush.S.getD (posM J.ring a) [] := fun a => by
    rw [(pos_bd r1 a).2.2.1]; exact hsD _
  have hlt : (J.held.drop n).length = J.held.length - n := List.length_drop
  have hget : ∀ i (h : i < (J.held.drop n).length), (J.held.drop n)[i] = J.held[n + i]'(by omega) := fun i h => List.getElem_drop
  have hlow : ∀ i, i ≤ J.held.length - n → lowAt (lowAt J.hd.low J.held n) (J.held.drop n) i = lowAt J.hd.low J.held (n + i) := fun i hi => by
    cases i with
    | zero => rfl
    | succ i =>
      rw [lowAt_succ _ _ (by omega), hget, ← Nat.add_assoc, lowAt_succ _ _ (by omega)]
  have hf : J.hd.first + (n : Int) + ((J.held.drop n).length : Int) = J.hd.first + (J.held.length : Int) := by omega
  refine .inr ⟨by omega, by omega, rfl, rfl, rfl, ⟨save_ok I2.dok (by omega) _, ⟨r1, r2, by rw [save_len]; exact r3⟩, ⟨by dsimp only; omega, by dsimp only; omega, hlnn, hlle⟩, by dsimp only; omega, by dsimp only; omega, Nat.le_refl _, ?_, ?_, ?_, fun i h hi => by omega, ?_, ?_, ?_, ?_, ?_, ?_⟩, rfl⟩
  · intro i h
    dsimp only at h ⊢
    rw [hget i h, I2.seq]
    omega
  · intro x hx
    exact I2.right x (List.mem_of_mem_drop hx)
  · intro i h
    dsimp only at h ⊢
    rw [hget i h, hlow i (by omega)]
    exact I2.gens (n + i) (by omega)
  · dsimp only
    rw [hsv.1, getD_set_eq (by omega)]
  · intro h' hh
    dsimp only at hh ⊢
    rw [hsv.1] at hh
    have hh2 := headOf_headS (I.hok hB)
    rcases mod2 J.hd.turn t0 with ⟨e1, e2, e3, e4, e5, e6⟩ | ⟨e1, e2, e3, e4, e5, e6⟩
    · rw [e5, e6, e2, getD_set_ne (by decide)] at hh
      have := I2.head
      rw [e3] at this
      rw [this, hh2, e1, if_pos (by decide)] at hh
      cases hh
      omega
    · rw [e5, e6, e2, getD_set_ne (by decide)] at hh
      have := I2.head
      rw [e3] at this
      rw [this, hh2, e1, if_pos (by decide)] at hh
      cases hh
      omega
  · intro i h _
    dsimp only at h ⊢
    rw [hsP, hget i h, show J.hd.first + (n : Int) + (i : Int) = J.hd.first + ((n + i : Nat) : Int) by omega]
    exact I2.durable (n + i) (by omega) (by omega)
  · rw [hsv.2]
    dsimp only
    rw [List.drop_eq_nil_of_le (Nat.le_refl _)]
    rfl
  · intro q hq x hx
    dsimp only at hq ⊢
    rw [hsD] at hx
    have := I2.stale q hq x hx
    exact ⟨this.1, fun h2 => this.2 (by omega)⟩
  · dsimp only
    rw [hsP, hf, hlow _ (by omega), show n + (J.held.drop n).length = J.held.length by omega]
    exact I2.stop
end
/-- a journal on an empty disk -/
theorem JInv.fresh {n ring : Nat} (h1 : 1 ≤ ring) (h2 : ring ≤ 512) (h3 : 2 + ring ≤ n) (h4 : n ≤ 1024) :
    openM (Dsk.new n) ring = .ok (⟨ring, ⟨1, 1, 1, 0⟩, []⟩, saveM (Dsk.new n) ⟨1, 1, 1, 0⟩) ∧ JInv ⟨ring, ⟨1, 1, 1, 0⟩, []⟩ (saveM (Dsk.new n) ⟨1, 1, 1, 0⟩) 0 3 := by
  have hS : (Dsk.new n).S = List.replicate n zero64 := by
    unfold Dsk.new
    rw [show (max 0 (min (n : Int) 1024)).toNat = n by omega]
  have hget : ∀ p, p < n → (Dsk.new n).S.getD p [] = zero64 := fun p hp => by
    rw [hS, List.getD_eq_getElem?_getD, List.getElem?_replicate, if_pos hp]; rfl
  have hcur : ∀ p, p < n → (Dsk.new n).cur p = zero64 := fun p hp => hget p hp
  have hl : (Dsk.new n).S.length = n := by rw [hS]; exact List.length_replicate
  have hpb := fun a => pos_bd h1 a
  have hfz : ∀ s l g, fits zero64 s l g = none := fun s l g => fits_none fun x hx _ _ _ => decR_zero x hx
  have hscan : scanM (Dsk.new n) ring hd0 = [] := by
    have := scan_take (D := Dsk.new n) (ring := ring) (h := hd0) (held := []) (p := 0) (Nat.zero_le _) (Nat.le_refl _) (fun i hi => by omega) (fun _ => by
      rw [hcur _ (by have := hpb (hd0.first + ((0 : Nat) : Int)); omega)]; exact hfz _ _ _)
    exact this
  have hnew : newestM ((Dsk.new n).cur 0) ((Dsk.new n).cur 1) = some hd0 := by
    rw [hcur 0 (by omega), hcur 1 (by omega)]
    unfold newestM
    rw [headOf_zero, headOf_zero]
    dsimp only
    rw [if_pos ⟨rfl, rfl⟩]
  have hsv := save_S (Dsk.new n) ⟨1, 1, 1, 0⟩
  rw [flush_nil rfl] at hsv
  have hsD : ∀ q, q < ring → (saveM (Dsk.new n) ⟨1, 1, 1, 0⟩).S.getD (2 + q) [] = zero64 := fun q hq => by
    rw [hsv.1, getD_set_ne (by show (1 : Nat) ≠ 2 + q; omega)]; exact hget _ (by omega)
  refine ⟨?_, ⟨save_ok (Dsk.new_ok _) (by omega) _, ⟨h1, h2, by rw [save_len]; dsimp only; omega⟩, ⟨(by decide : (0 : Int) ≤ 1), (by decide : (1 : Int) ≤ 1), (by decide : (0 : Int) ≤ 0), (by decide : (0 : Int) ≤ 1)⟩, by simp, Nat.zero_le _, Nat.le_refl _, (fun i h => by simp at h), (fun x hx => by cases hx), (fun i h => by simp at h), (fun i h => by simp at h), ?_, ?_, (fun i h => by simp at h), rfl, ?_, ?_⟩⟩
  · unfold openM
    rw [if_neg (by rw [hl]; omega), hnew]
    dsimp only
    rw [Int.toNat_natCast, hscan]
    rfl
  · rw [hsv.1]
    exact getD_set_eq (by rw [hl]; show (1 : Nat) < n; omega)
  · intro h' hh
    have hh : headOf (((Dsk.new n).S.set 1 (headS ⟨1, 1, 1, 0⟩)).getD 0 []) 0 = some h' := by rw [hsv.1] at hh; exact hh
    rw [getD_set_ne (show (1 : Nat) ≠ 0 by decide), hget 0 (by omega), headOf_zero] at hh
    cases hh
  · intro q hq x hx
    rw [hsD q hq] at hx
    exact absurd hx (decR_zero x)
  · obtain ⟨_, _, e3, e4⟩ := hpb ((1 : Int) + ((0 : Nat) : Int))
    show fits ((saveM (Dsk.new n) ⟨1, 1, 1, 0⟩).S.getD (posM ring ((1 : Int) + ((0 : Nat) : Int))) []) _ _ _ = none
    rw [e3, hsD _ e4]
    exact hfz _ _ _
end Go.Proofs.YtleajkobmhhacaaGreatDoor
/- Contracts of functions of the given program, and plain laws on what they compute: parts of the proofs of laws. -/

namespace Go.Proofs.YtleajkobmhhacaaGreatDoor
open Go Go.GL

/-! the journal: heads -/
def hdC (h : Hd) : List Value := [.int .i64 h.turn, .int .i64 h.first, .int .i64 h.gen, .int .i64 h.low]
set_option maxHeartbeats 2000000 in
set_option maxRecDepth 10000 in
theorem hsector_rt (h : Hd) : RT G 234 [.agg (hdC h).toArray] (fun _ => True) (BytesNew (headS h)) := by
  refine RT.enter Tryz.func234 rfl (by decide) rfl Tryz.ntmps234 rfl (fun A hu hA => ?_)
  have h1 := numB_nine h.turn
  have h2 := numB_nine h.first
  have h3 := numB_nine h.gen
  have h4 := numB_nine h.low
  have hb := headB_len h
  rw [show hdC h = [.int .i64 h.turn, .int .i64 h.first, .int .i64 h.gen, .int .i64 h.low] from rfl]
  repeat (first | refine GO ?_ | refine NW fun _ => ?_)
  rename_i q
  refine RD 7 7 (_) ?_
  refine WP 0 ?_
  refine VV 1 ?_
  refine WP 3 ?_
  refine VV 4 ?_
  refine WH.only 2 rfl rfl (by kernel_rfl) rfl (OP.call (pre := [ownS none 0 0 5 1 (([] : List UInt8).map byteV)]) rfl rfl (number_ok none 0 0 [] h.turn (by omega)) (Imp.nilS 5 1) rfl rfl (fun v M hM => ?_))
  obtain ⟨a1, cap1, rfl, rfl⟩ := hM
  refine ⟨fun _ => II, ?_⟩
  refine WH.only 5 rfl rfl (by kernel_rfl) rfl (OP.call (pre := [ownS a1 _ cap1 5 1 _]) rfl rfl (number_ok a1 _ cap1 _ h.first (by omega)) PS rfl rfl (fun v M hM => ?_))
  obtain ⟨a2, cap2, rfl, rfl⟩ := hM
  refine ⟨fun _ => II, ?_⟩
  refine WP 6 ?_
  refine DN ?_
  repeat (first | refine GO ?_ | refine NW fun _ => ?_)
  refine RD 13 13 ([blk q [.int .i64 h.turn, .int .i64 h.first, .int .i64 h.gen, .int .i64 h.low] 254, A]) ?_
  refine WP 0 ?_
  refine WP 1 ?_
  refine VV 2 ?_
  refine WP 4 ?_
  refine VV 5 ?_
  refine WH.only 3 rfl rfl (by kernel_rfl) rfl (OP.call (pre := [ownS a2 _ cap2 5 1 _]) rfl rfl (number_ok a2 _ cap2 _ h.gen (by omega)) PS rfl rfl (fun v M hM => ?_))
  obtain ⟨a3, cap3, rfl, rfl⟩ := hM
  refine ⟨fun _ => II, ?_⟩
  refine WH.only 6 rfl rfl (by kernel_rfl) rfl (OP.call (pre := [ownS a3 _ cap3 5 1 _]) rfl rfl (number_ok a3 _ cap3 _ h.low (by omega)) PS rfl rfl (fun v M hM => ?_))
  obtain ⟨a4, cap4, rfl, rfl⟩ := hM
  refine ⟨fun _ => II, ?_⟩
  refine WH.only 7 rfl rfl (by kernel_rfl) rfl (OP.callRT rfl rfl (sector_ok a4 _ cap4 (headB h) (by unfold headB; simp; omega) (by unfold headB at hb; simp at hb ⊢; omega)) (Ent.own (T := 5) (by unfold headB; exact MM)) rfl rfl (fun v E hE => ?_))
  obtain ⟨v1, rfl, a6, cap6, rfl, rfl⟩ := hE
  refine ⟨fun _ => II, ?_⟩
  refine WP 8 ?_
  refine WP 9 ?_
  refine WP 10 ?_
  refine WP 11 ?_
  refine WP 12 ?_
  refine DN ?_
  repeat (first | refine GO ?_ | refine NW fun _ => ?_)
  exact ret1 rfl ⟨[_], ⟨a6, cap6, rfl, rfl⟩, II⟩
/-- the answer of headOf -/
def HeadPost (l : List UInt8) (slot : Int) (v : Value) : Prop :=
  match headOf l slot with
  | some h => v = .tuple #[.agg (hdC h).toArray, .bool true]
  | none => ∃ h, v = .tuple #[.agg (hdC h).toArray, .bool false]
set_option maxHeartbeats 4000000 in
set_option maxRecDepth 10000 in
theorem headOf_rt (a : Option Addr) (n c : Nat) (l : List UInt8) (slot : Int) (hn : n = l.length) (hc : n ≤ c) (hs : n < 1000000) : RT G 232 [.slice a n c, .int .i64 slot] (readS a n 1 (l.map byteV)) (fun v E => HeadPost l slot v ∧ E = []) := by
  refine RT.enter Tryz.func232 rfl (by decide) rfl Tryz.ntmps232 rfl (fun A hu hA => ?_)
  have hE : ∀ {L}, A ∈ L → Ent L (readS a n 1 (l.map byteV)) := fun m => Ent.mem m hu hA
  repeat (first | refine GD ?_ | refine NW fun _ => ?_)
  refine WL.step rfl (OP.callRT rfl rfl (open_ok a n c l hn hc hs) (hE MM) rfl rfl ?_)
  rintro v E hO
  unfold OpenPost at hO
  by_cases ho : OpenOk l
  rotate_left
  · rw [if_neg ho] at hO
    obtain ⟨rfl, rfl⟩ := hO
    have hdec : headOf l slot = none := by unfold headOf; rw [if_neg (fun h => ho h.1)]
    repeat (first | refine GD ?_ | refine NW fun _ => ?_)
    refine retc2 rfl rfl rfl rfl rfl (HasCut.ent (n := 4) HC).1 ⟨[], ⟨?_, rfl⟩, II⟩
    unfold HeadPost
    rw [hdec]
    exact ⟨⟨0, 0, 0, 0⟩, rfl⟩
  rw [if_pos ho] at hO
  obtain ⟨v1, rfl, a2, cap2, rfl, rfl⟩ := hO
  have hdR : headOf l slot = if HdOk l slot (hd4 (l.take (l.length - 4), 0)).1 (hd4 (l.take (l.length - 4), 0)).2.2 then some (hd4 (l.take (l.length - 4), 0)).1 else none := by
    unfold headOf
    by_cases hk : HdOk l slot (hd4 (l.take (l.length - 4), 0)).1 (hd4 (l.take (l.length - 4), 0)).2.2
    · rw [if_pos ⟨ho, hk⟩, if_pos hk]
    · rw [if_neg (fun h => hk h.2), if_neg hk]
  have hl4 : (l.take (l.length - 4)).length < 1000000 := by rw [List.length_take]; omega
  generalize l.take (l.length - 4) = l4 at *
  refine WL.fact (Ent.ownLe (a := a2) (n := l4.length) (cap := cap2) (T := 5) (size := 1) (cs := l4.map byteV) MM) (fun hc2 => ?_)
  have hby : Bytes (ownS a2 l4.length cap2 5 1 (l4.map byteV)) l4 (.slice a2 l4.length cap2) := ⟨a2, l4.length, cap2, rfl, rfl, hc2, fun h x => read_of_own x⟩
  generalize hO : ownS a2 l4.length cap2 5 1 (l4.map byteV) = O at *
  have huO : Up O := by rw [← hO]; exact up_ownS _ _ _ _ _ _
  repeat (first | refine GD ?_ | refine NW fun _ => ?_)
  refine WL.step rfl (OP.callRT rfl rfl (read0_ok a2 l4.length cap2) (fun _ _ => trivial) rfl rfl ?_)
  rintro v E ⟨r, rfl, rfl⟩
  unfold hd4 at hdR
  repeat (first | refine GD ?_ | refine NW fun _ => ?_)
  refine WL.step rfl (OP.call (pre := [blk r [.slice a2 l4.length cap2, .int .i64 (l4, 0).2] 356, O]) rfl rfl (numR_ok r _ (l4, 0) O huO hby (by first | exact hl4 | assumption)) PS rfl rfl ?_)
  rintro _ _ ⟨rfl, vy1, hy1, rfl⟩
  have by1 := numR_bd (l4, 0)
  have hly1 : (numR (l4, 0)).2.1.length < 1000000 := by
    refine Nat.lt_of_le_of_lt by1.1 ?_
    first | exact hl4 | assumption
  generalize numR (l4, 0) = y1 at *
  obtain ⟨xy1, sy1⟩ := y1
  dsimp only at hy1 by1 hly1 hdR ⊢
  repeat (first | refine GD ?_ | refine NW fun _ => ?_)
  refine WL.step rfl (OP.call (pre := [blk r [vy1, .int .i64 sy1.2] 356, O]) rfl rfl (numR_ok r _ sy1 O huO hy1 (by first | exact hl4 | assumption)) PS rfl rfl ?_)
  rintro _ _ ⟨rfl, vy2, hy2, rfl⟩
  have by2 := numR_bd sy1
  have hly2 : (numR sy1).2.1.length < 1000000 := by
    refine Nat.lt_of_le_of_lt by2.1 ?_
    first | exact hl4 | assumption
  generalize numR sy1 = y2 at *
  obtain ⟨xy2, sy2⟩ := y2
  dsimp only at hy2 by2 hly2 hdR ⊢
  repeat (first | refine GD ?_ | refine NW fun _ => ?_)
  refine WL.step rfl (OP.call (pre := [blk r [vy2, .int .i64 sy2.2] 356, O]) rfl rfl (numR_ok r _ sy2 O huO hy2 (by first | exact hl4 | assumption)) PS rfl rfl ?_)
  rintro _ _ ⟨rfl, vy3, hy3, rfl⟩
  have by3 := numR_bd sy2
  have hly3 : (numR sy2).2.1.length < 1000000 := by
    refine Nat.lt_of_le_of_lt by3.1 ?_
    first | exact hl4 | assumption
  generalize numR sy2 = y3 at *
  obtain ⟨xy3, sy3⟩ := y3
  dsimp only at hy3 by3 hly3 hdR ⊢
  repeat (first | refine GD ?_ | refine NW fun _ => ?_)
  refine WL.step rfl (OP.call (pre := [blk r [vy3, .int .i64 sy3.2] 356, O]) rfl rfl (numR_ok r _ sy3 O huO hy3 (by first | exact hl4 | assumption)) PS rfl rfl ?_)
  rintro _ _ ⟨rfl, vy4, hy4, rfl⟩
  have by4 := numR_bd sy3
  have hly4 : (numR sy3).2.1.length < 1000000 := by
    refine Nat.lt_of_le_of_lt by4.1 ?_
    first | exact hl4 | assumption
  generalize numR sy3 = y4 at *
  obtain ⟨xy4, sy4⟩ := y4
  dsimp only at hy4 by4 hly4 hdR ⊢
  repeat (first | refine GD ?_ | refine NW fun _ => ?_)
  refine WL.step rfl (OP.callRO rfl rfl (err_ro r vy4 sy4.2) (Ent.whole (T := 356) MM) rfl rfl ?_)
  obtain ⟨ly4, ey4⟩ := sy4
  dsimp only at hdR ⊢
  by_cases he : ey4 = 0
  rotate_left
  · have hdec : headOf l slot = none := by rw [hdR, if_neg (fun h => he h.1)]
    repeat (first | refine GD ?_ | refine NW fun _ => ?_)
    refine RD 8 10 (_) ?_
    refine VV 0 ?_
    refine WP 1 ?_
    refine WP 2 ?_
    refine VF 3 ?_
    refine VF 4 ?_
    refine VF 5 ?_
    refine VF 6 ?_
    refine WP 7 ?_
    refine WH.only 8 rfl rfl (by kernel_rfl) rfl (OP.store rfl rfl rfl rfl rfl rfl rfl UP rfl ⟨(fun h => nomatch h), ?_⟩)
    refine WP 9 ?_
    refine DN ?_
    repeat (first | refine GD ?_ | refine NW fun _ => ?_)
    refine retc2 rfl rfl rfl rfl rfl (HasCut.ent (n := 4) HC).1 ⟨[], ⟨?_, rfl⟩, II⟩
    unfold HeadPost
    rw [hdec]
    exact ⟨⟨xy1, xy2, xy3, xy4⟩, rfl⟩
  by_cases h1 : xy4 ≤ xy3
  rotate_left
  · have hdec : headOf l slot = none := by rw [hdR, if_neg (fun h => h1 h.2.1)]
    repeat (first | refine GD ?_ | refine NW fun _ => ?_)
    refine RD 8 10 (_) ?_
    refine VV 0 ?_
    refine WP 1 ?_
    refine WP 2 ?_
    refine VF 3 ?_
    refine VF 4 ?_
    refine VF 5 ?_
    refine VF 6 ?_
    refine WP 7 ?_
    refine WH.only 8 rfl rfl (by kernel_rfl) rfl (OP.store rfl rfl rfl rfl rfl rfl rfl UP rfl ⟨(fun h => nomatch h), ?_⟩)
    refine WP 9 ?_
    refine DN ?_
    repeat (first | refine GD ?_ | refine NW fun _ => ?_)
    refine retc2 rfl rfl rfl rfl rfl (HasCut.ent (n := 4) HC).1 ⟨[], ⟨?_, rfl⟩, II⟩
    unfold HeadPost
    rw [hdec]
    exact ⟨⟨xy1, xy2, xy3, xy4⟩, rfl⟩
  by_cases h2 : 0 < xy2
  rotate_left
  · have hdec : headOf l slot = none := by rw [hdR, if_neg (fun h => h2 h.2.2.1)]
    repeat (first | refine GD ?_ | refine NW fun _ => ?_)
    refine RD 8 10 (_) ?_
    refine VV 0 ?_
    refine WP 1 ?_
    refine WP 2 ?_
    refine VF 3 ?_
    refine VF 4 ?_
    refine VF 5 ?_
    refine VF 6 ?_
    refine WP 7 ?_
    refine WH.only 8 rfl rfl (by kernel_rfl) rfl (OP.store rfl rfl rfl rfl rfl rfl rfl UP rfl ⟨(fun h => nomatch h), ?_⟩)
    refine WP 9 ?_
    refine DN ?_
    repeat (first | refine GD ?_ | refine NW fun _ => ?_)
    refine retc2 rfl rfl rfl rfl rfl (HasCut.ent (n := 4) HC).1 ⟨[], ⟨?_, rfl⟩, II⟩
    unfold HeadPost
    rw [hdec]
    exact ⟨⟨xy1, xy2, xy3, xy4⟩, rfl⟩
  by_cases h3 : xy1 % 2 = slot
  rotate_left
  · have hdec : headOf l slot = none := by rw [hdR, if_neg (fun h => h3 h.2.2.2.1)]
    repeat (first | refine GD ?_ | refine NW fun _ => ?_)
    refine RD 8 10 (_) ?_
    refine VV 0 ?_
    refine WP 1 ?_
    refine WP 2 ?_
    refine VF 3 ?_
    refine VF 4 ?_
    refine VF 5 ?_
    refine VF 6 ?_
    refine WP 7 ?_
    refine WH.only 8 rfl rfl (by kernel_rfl) rfl (OP.store rfl rfl rfl rfl rfl rfl rfl UP rfl ⟨(fun h => nomatch h), ?_⟩)
    refine WP 9 ?_
    refine DN ?_
    repeat (first | refine GD ?_ | refine NW fun _ => ?_)
    refine retc2 rfl rfl rfl rfl rfl (HasCut.ent (n := 4) HC).1 ⟨[], ⟨?_, rfl⟩, II⟩
    unfold HeadPost
    rw [hdec]
    exact ⟨⟨xy1, xy2, xy3, xy4⟩, rfl⟩
  repeat (first | refine GD ?_ | refine NW fun _ => ?_)
  have hsec := hsector_rt ⟨xy1, xy2, xy3, xy4⟩
  have hlen := headS_len ⟨xy1, xy2, xy3, xy4⟩
  have hok : HdOk l slot ⟨xy1, xy2, xy3, xy4⟩ ey4 ↔ headS ⟨xy1, xy2, xy3, xy4⟩ = l := ⟨fun h => h.2.2.2.2, fun h => ⟨he, h1, h2, h3, h⟩⟩
  generalize headS ⟨xy1, xy2, xy3, xy4⟩ = hS at *
  by_cases h4 : hS = l
  rotate_left
  all_goals
    refine RD 8 10 (_) ?_
    refine VV 0 ?_
    refine WP 1 ?_
    refine WP 2 ?_
    refine VV 3 ?_
    refine WP 5 ?_
    refine WH.onlyG (q := true) 4 rfl rfl rfl rfl rfl rfl rfl (by kernel_rfl) rfl (.inl rfl) (fun _ => OP.callRT rfl rfl hsec (fun _ _ => trivial) rfl rfl (fun v E hE' => ?_)) (fun h => nomatch h)
    obtain ⟨a6, cap6, rfl, rfl⟩ := hE'
    refine ⟨fun _ => II, ?_⟩
    refine WH.onlyG (q := true) 6 rfl rfl rfl rfl rfl rfl rfl (by kernel_rfl) rfl (.inl rfl) (fun _ => OP.callRO rfl rfl (beq_ro a6 a _ cap6 n c hS l) (Ent.and (Ent.own (T := 5) MM) (hE MM)) rfl rfl ⟨fun _ => II, ?_⟩) (fun h => nomatch h)
    first | rw [decide_eq_false h4] | rw [decide_eq_true h4]
    refine WP 7 ?_
    refine WH.only 8 rfl rfl (by kernel_rfl) rfl (OP.store rfl rfl rfl rfl rfl rfl rfl UP rfl ⟨(fun h => nomatch h), ?_⟩)
    refine WP 9 ?_
    refine DN ?_
    repeat (first | refine GD ?_ | refine NW fun _ => ?_)
    refine retc2 rfl rfl rfl rfl rfl (HasCut.ent (n := 4) HC).1 ⟨[], ⟨?_, rfl⟩, II⟩
    unfold HeadPost
    rw [hdR]
    first
      | rw [if_neg (fun h => h4 (hok.1 h))]; exact ⟨⟨xy1, xy2, xy3, xy4⟩, rfl⟩
      | rw [if_pos (hok.2 h4)]; exact rfl
end Go.Proofs.YtleajkobmhhacaaGreatDoor
/- Contracts of functions of the given program, and plain laws on what they compute: parts of the proofs of laws. -/

namespace Go.Proofs.YtleajkobmhhacaaGreatDoor
open Go Go.GL

/-! the journal: which head counts -/
def nz (x : UInt8) : Bool := decide (x ≠ 0)
def idxNZ (l : List UInt8) : Int := if l.any nz = true then (l.findIdx nz : Int) else -1
theorem new1_ro (x : UInt8) : RO G 231 [byteV x] (fun _ => True) (.bool (nz x)) := by
  refine RO.enter Tryz.func231 rfl (by decide) rfl Tryz.ntmps231 rfl (fun A hu hA => ?_) (fun _ _ _ h => h)
  have e : nz x = decide (¬ (x.toNat : Int) = 0) := by
    unfold nz
    by_cases h : x = 0
    · subst h; rfl
    · rw [decide_eq_true h, decide_eq_true]
      intro h2
      exact h (UInt8.toNat_inj.1 (by have : x.toNat = 0 := by omega
                                     rw [this]; rfl))
  rw [e]
  have hx := x.toNat_lt
  unfold byteV
  by_cases h0 : (x.toNat : Int) = 0
  · rw [decide_eq_false (not_not_intro h0)]
    repeat (first | refine GD ?_ | refine NW fun _ => ?_)
    exact ret1 rfl ⟨rfl, MM⟩
  · rw [decide_eq_true h0]
    repeat (first | refine GD ?_ | refine NW fun _ => ?_)
    exact ret1 rfl ⟨rfl, MM⟩
theorem any_take (l : List UInt8) (k : Nat) (h : k < l.length) : (l.take (k + 1)).any nz = ((l.take k).any nz || nz l[k]) := by
  rw [← List.take_append_getElem h, List.any_append]; simp only [List.any_cons, List.any_nil, Bool.or_false]
theorem find_at (l : List UInt8) (k : Nat) (h : k < l.length) (h1 : (l.take k).any nz = false) (h2 : nz l[k] = true) : idxNZ l = k := by
  have h3 : l.any nz = true := List.any_eq_true.2 ⟨l[k], List.getElem_mem h, h2⟩
  unfold idxNZ
  rw [if_pos h3]
  congr 1
  rw [List.findIdx_eq h]
  refine ⟨h2, fun j hj => ?_⟩
  cases hn : nz l[j]
  · rfl
  · exfalso
    have : (l.take k).any nz = true := List.any_eq_true.2 ⟨l[j], by rw [List.mem_take_iff_getElem]; exact ⟨j, by omega, rfl⟩, hn⟩
    rw [h1] at this; cases this
set_option maxHeartbeats 1000000 in
set_option maxRecDepth 10000 in
theorem idx_ro (a : Option Addr) (n c : Nat) (l : List UInt8) (hn : n = l.length) (hs : n < 1000000) : RO G 244 [.slice a n c, .func (.func 231) #[] #[]] (readS a n 1 (l.map byteV)) (.int .i64 (idxNZ l)) := by
  refine RO.enter Tryz.func244 rfl (by decide) rfl Tryz.ntmps244 rfl (fun A hu hA => ?_) (up_readS _ _ _ _)
  have hE : ∀ {L}, A ∈ L → Ent L (readS a n 1 (l.map byteV)) := fun m => Ent.mem m hu hA
  repeat (first | refine GO ?_ | refine NW fun _ => ?_)
  refine WC.loop (σ := Nat) (fun k => k ≤ l.length ∧ (l.take k).any nz = false)
    (fun k => [(0, .val (.slice a n c)), (1, .val (.func (.func 231) #[] #[])), (7, .val (.int .i64 n)), (8, .val (.int .i64 k))])
    (fun _ => [A]) (fun k => l.length - k) 0 ⟨Nat.zero_le _, rfl⟩ ⟨rfl, rfl, rfl, rfl, trivial⟩ (Imp.refl _) ?_
  rintro k ⟨hk, hz⟩
  by_cases hlt : k < l.length
  rotate_left
  · have he : k = l.length := by omega
    subst he
    rw [List.take_length] at hz
    have hi : idxNZ l = -1 := by unfold idxNZ; rw [if_neg (by rw [hz]; simp)]
    repeat (first | refine GD ?_ | refine NW fun _ => ?_)
    refine ret1 rfl ⟨?_, MM⟩
    rw [hi]
  have hsn := any_take l k hlt
  have hfa := find_at l k hlt hz
  refine WC.fact (Ent.some (hE MM) (by omega)) ?_
  rintro ⟨b, off, rfl⟩
  repeat (first | refine GD ?_ | refine NW fun _ => ?_)
  refine WL.step rfl (OP.load1 (v := byteV l[k]) rfl rfl rfl rfl (Ent.elem (i := k * 1) (hE MM) rfl (by simp [hlt])) rfl rfl ?_)
  refine WL.step rfl (OP.callVRO (vs := [byteV l[k]]) (caps := []) rfl rfl rfl (new1_ro l[k]) (fun _ _ => trivial) rfl rfl ?_)
  cases hnz : nz l[k]
  · repeat (first | refine GD ?_ | refine NW fun _ => ?_)
    refine ⟨k + 1, ⟨by omega, by rw [hsn, hz, hnz]; rfl⟩, by omega, ⟨rfl, rfl, rfl, rfl, trivial⟩, Imp.refl _⟩
  · repeat (first | refine GD ?_ | refine NW fun _ => ?_)
    refine ret1 rfl ⟨?_, MM⟩
    rw [hfa hnz]
theorem idx_nn (l : List UInt8) : decide (0 ≤ idxNZ l) = l.any nz := by
  unfold idxNZ
  cases h : l.any nz
  · rw [if_neg (by simp)]; rfl
  · rw [if_pos rfl]; exact decide_eq_true (by omega)
set_option maxRecDepth 10000 in
theorem contains_ro (a : Option Addr) (n c : Nat) (l : List UInt8) (hn : n = l.length) (hs : n < 1000000) : RO G 230 [.slice a n c, .func (.func 231) #[] #[]] (readS a n 1 (l.map byteV)) (.bool (l.any nz)) := by
  refine RO.enter Tryz.func230 rfl (by decide) rfl Tryz.ntmps230 rfl (fun A hu hA => ?_) (up_readS _ _ _ _)
  repeat (first | refine GO ?_ | refine NW fun _ => ?_)
  refine WL.step rfl (OP.callRO rfl rfl (idx_ro a n c l hn hs) (Ent.mem MM hu hA) rfl rfl ?_)
  rw [← idx_nn]
  by_cases h : 0 ≤ idxNZ l
  · rw [decide_eq_true h]
    repeat (first | refine GD ?_ | refine NW fun _ => ?_)
    exact ret1 rfl ⟨rfl, MM⟩
  · rw [decide_eq_false h]
    repeat (first | refine GD ?_ | refine NW fun _ => ?_)
    exact ret1 rfl ⟨rfl, MM⟩
theorem any_zero {l : List UInt8} (h : l.length = 64) : l.any nz = !decide (l = zero64) := by
  by_cases e : l = zero64
  · subst e; rfl
  · rw [decide_eq_false e]
    cases ha : l.any nz
    · exfalso
      apply e
      apply List.eq_replicate_iff.2 ⟨h, fun b hb => ?_⟩
      have := List.any_eq_false.1 ha b hb
      unfold nz at this
      simpa using this
    · rfl
/-- what newest knows behind k slots: the head, are both zero so far, is there one -/
def nst (D : Dsk) : Nat → Hd × Bool × Bool
  | 0 => (hd0, true, false)
  | k + 1 =>
    let s := nst D k
    let z := s.2.1 && decide (D.cur k = zero64)
    match headOf (D.cur k) k with
    | some x => if s.2.2 = false ∨ s.1.turn < x.turn then (x, z, true) else (s.1, z, s.2.2)
    | none => (s.1, z, s.2.2)
theorem nst_two (D : Dsk) : newestM (D.cur 0) (D.cur 1) = if ((nst D 2).2.2 || (nst D 2).2.1) = true then some (nst D 2).1 else none := by
  unfold newestM
  simp only [nst]
  push_cast
  cases h0 : headOf (D.cur 0) 0 <;> cases h1 : headOf (D.cur 1) 1 <;> simp only []
  · by_cases z0 : D.cur 0 = zero64 <;> by_cases z1 : D.cur 1 = zero64 <;> simp [z0, z1]
  · simp
  · simp
  · rename_i x y
    by_cases h : x.turn < y.turn
    · simp [h]
    · simp [h]
def NewHdP (o : Option Hd) (v : Value) : Prop := match o with
  | some h => v = .tuple #[.agg (hdC h).toArray, .bool true]
  | none => ∃ h, v = .tuple #[.agg (hdC h).toArray, .bool false]
set_option maxHeartbeats 4000000 in
set_option maxRecDepth 10000 in
theorem newest_rt (p : Nat) (D : Dsk) (hD : D.ok) (hl : 2 ≤ D.S.length) (hw : D.W.length < 1000000) : RT G 200 [.pointer (some ⟨p, 0, none⟩)] (dsk p D) (fun v E => NewHdP (newestM (D.cur 0) (D.cur 1)) v ∧ E = []) := by
  refine RT.enter Tryz.func200 rfl (by decide) rfl Tryz.ntmps200 rfl (fun A hu hA => ?_)
  have hE : ∀ {L}, A ∈ L → Ent L (dsk p D) := fun m => Ent.mem m hu hA
  rw [nst_two]
  repeat (first | refine GO ?_ | refine NW fun _ => ?_)
  rename_i b2 b4
  refine WC.loop (σ := Nat) (fun k => k ≤ 2)
    (fun k => [(0, .val (.pointer (some ⟨p, 0, none⟩))), (2, .val (.pointer (some ⟨b2, 0, none⟩))), (4, .val (.pointer (some ⟨b4, 0, none⟩))), (5, .val (.bool (nst D k).2.1)), (6, .val (.bool (nst D k).2.2)), (13, .val (.int .i64 k))])
    (fun k => [blk b4 (hdC (nst D k).1) 254, blk b2 [.int .i64 0, .int .i64 0, .int .i64 0, .int .i64 0] 254, A]) (fun k => 2 - k) 0 (by omega) ⟨rfl, rfl, rfl, rfl, rfl, rfl, trivial⟩ (Imp.refl _) ?_
  rintro k hk
  by_cases hlt : k < 2
  rotate_left
  · have he : k = 2 := by omega
    subst he
    generalize nst D 2 = s
    obtain ⟨h, z, f⟩ := s
    dsimp only
    cases f <;> cases z
    all_goals
      repeat (first | refine GD ?_ | refine NW fun _ => ?_)
      refine retc2 rfl rfl rfl rfl rfl (HasCut.ent (n := 4) HC).1 ⟨[], ⟨?_, rfl⟩, II⟩
      first | exact rfl | exact ⟨h, rfl⟩
  have hsn : nst D (k + 1) = (match headOf (D.cur k) k with
    | some x => if (nst D k).2.2 = false ∨ (nst D k).1.turn < x.turn then (x, (nst D k).2.1 && decide (D.cur k = zero64), true) else ((nst D k).1, (nst D k).2.1 && decide (D.cur k = zero64), (nst D k).2.2)
    | none => ((nst D k).1, (nst D k).2.1 && decide (D.cur k = zero64), (nst D k).2.2)) := rfl
  generalize nst D k = s at *
  obtain ⟨h, z, f⟩ := s
  dsimp only at hsn ⊢
  have h64 := Dsk.cur_64 hD (show k < D.S.length by omega)
  repeat (first | refine GD ?_ | refine NW fun _ => ?_)
  refine WL.step rfl (OP.callRT rfl rfl (dread_rt p D k hD hw) (hE MM) rfl rfl ?_)
  intro v E hRd
  unfold DReadPost at hRd
  rw [if_pos (by omega), Int.toNat_natCast] at hRd
  obtain ⟨br, rfl, rfl⟩ := hRd
  generalize D.cur k = l at *
  have hcon := contains_ro (some ⟨br, 0, none⟩) 64 64 l h64.symm (by decide)
  rw [any_zero h64] at hcon
  have hho := headOf_rt (some ⟨br, 0, none⟩) 64 64 l k h64.symm (Nat.le_refl _) (by decide)
  cases z with
  | false =>
    rw [Bool.false_and] at hsn
    repeat (first | refine GD ?_ | refine NW fun _ => ?_)
    refine WL.step rfl (OP.callRT rfl rfl hho (Ent.at (up_readS _ _ _ _) MM) rfl rfl ?_)
    rintro v E ⟨hH, rfl⟩
    unfold HeadPost at hH
    cases hq : headOf l k with
    | none =>
      rw [hq] at hH hsn
      obtain ⟨h', rfl⟩ := hH
      dsimp only at hsn
      repeat (first | refine GD ?_ | refine NW fun _ => ?_)
      exact ⟨k + 1, by omega, by omega, ⟨rfl, rfl, rfl, by rw [hsn]; rfl, by rw [hsn]; rfl, rfl, trivial⟩, by rw [hsn]; exact II⟩
    | some x =>
      rw [hq] at hH hsn
      obtain rfl := hH
      dsimp only at hsn
      cases f with
      | false =>
        rw [if_pos (.inl rfl)] at hsn
        repeat (first | refine GD ?_ | refine NW fun _ => ?_)
        exact ⟨k + 1, by omega, by omega, ⟨rfl, rfl, rfl, by rw [hsn]; rfl, by rw [hsn]; rfl, rfl, trivial⟩, by rw [hsn]; exact II⟩
      | true =>
        by_cases hlt2 : h.turn < x.turn
        · rw [if_pos (.inr hlt2)] at hsn
          repeat (first | refine GD ?_ | refine NW fun _ => ?_)
          exact ⟨k + 1, by omega, by omega, ⟨rfl, rfl, rfl, by rw [hsn]; rfl, by rw [hsn]; rfl, rfl, trivial⟩, by rw [hsn]; exact II⟩
        · rw [if_neg (by simp [hlt2])] at hsn
          repeat (first | refine GD ?_ | refine NW fun _ => ?_)
          exact ⟨k + 1, by omega, by omega, ⟨rfl, rfl, rfl, by rw [hsn]; rfl, by rw [hsn]; rfl, rfl, trivial⟩, by rw [hsn]; exact II⟩
  | true =>
    rw [Bool.true_and] at hsn
    repeat (first | refine GD ?_ | refine NW fun _ => ?_)
    refine WL.guardT rfl rfl rfl rfl (OP.callRO rfl rfl hcon (Ent.at (up_readS _ _ _ _) MM) rfl rfl ?_)
    by_cases hl0 : l = zero64
    · rw [decide_eq_true hl0] at hsn ⊢
      repeat (first | refine GD ?_ | refine NW fun _ => ?_)
      refine WL.step rfl (OP.callRT rfl rfl hho (Ent.at (up_readS _ _ _ _) MM) rfl rfl ?_)
      rintro v E ⟨hH, rfl⟩
      unfold HeadPost at hH
      cases hq : headOf l k with
      | none =>
        rw [hq] at hH hsn
        obtain ⟨h', rfl⟩ := hH
        dsimp only at hsn
        repeat (first | refine GD ?_ | refine NW fun _ => ?_)
        exact ⟨k + 1, by omega, by omega, ⟨rfl, rfl, rfl, by rw [hsn]; rfl, by rw [hsn]; rfl, rfl, trivial⟩, by rw [hsn]; exact II⟩
      | some x =>
        rw [hq] at hH hsn
        obtain rfl := hH
        dsimp only at hsn
        cases f with
        | false =>
          rw [if_pos (.inl rfl)] at hsn
          repeat (first | refine GD ?_ | refine NW fun _ => ?_)
          exact ⟨k + 1, by omega, by omega, ⟨rfl, rfl, rfl, by rw [hsn]; rfl, by rw [hsn]; rfl, rfl, trivial⟩, by rw [hsn]; exact II⟩
        | true =>
          by_cases hlt2 : h.turn < x.turn
          · rw [if_pos (.inr hlt2)] at hsn
            repeat (first | refine GD ?_ | refine NW fun _ => ?_)
            exact ⟨k + 1, by omega, by omega, ⟨rfl, rfl, rfl, by rw [hsn]; rfl, by rw [hsn]; rfl, rfl, trivial⟩, by rw [hsn]; exact II⟩
          · rw [if_neg (by simp [hlt2])] at hsn
            repeat (first | refine GD ?_ | refine NW fun _ => ?_)
            exact ⟨k + 1, by omega, by omega, ⟨rfl, rfl, rfl, by rw [hsn]; rfl, by rw [hsn]; rfl, rfl, trivial⟩, by rw [hsn]; exact II⟩
    · rw [decide_eq_false hl0] at hsn ⊢
      repeat (first | refine GD ?_ | refine NW fun _ => ?_)
      refine WL.step rfl (OP.callRT rfl rfl hho (Ent.at (up_readS _ _ _ _) MM) rfl rfl ?_)
      rintro v E ⟨hH, rfl⟩
      unfold HeadPost at hH
      cases hq : headOf l k with
      | none =>
        rw [hq] at hH hsn
        obtain ⟨h', rfl⟩ := hH
        dsimp only at hsn
        repeat (first | refine GD ?_ | refine NW fun _ => ?_)
        exact ⟨k + 1, by omega, by omega, ⟨rfl, rfl, rfl, by rw [hsn]; rfl, by rw [hsn]; rfl, rfl, trivial⟩, by rw [hsn]; exact II⟩
      | some x =>
        rw [hq] at hH hsn
        obtain rfl := hH
        dsimp only at hsn
        cases f with
        | false =>
          rw [if_pos (.inl rfl)] at hsn
          repeat (first | refine GD ?_ | refine NW fun _ => ?_)
          exact ⟨k + 1, by omega, by omega, ⟨rfl, rfl, rfl, by rw [hsn]; rfl, by rw [hsn]; rfl, rfl, trivial⟩, by rw [hsn]; exact II⟩
        | true =>
          by_cases hlt2 : h.turn < x.turn
          · rw [if_pos (.inr hlt2)] at hsn
            repeat (first | refine GD ?_ | refine NW fun _ => ?_)
            exact ⟨k + 1, by omega, by omega, ⟨rfl, rfl, rfl, by rw [hsn]; rfl, by rw [hsn]; rfl, rfl, trivial⟩, by rw [hsn]; exact II⟩
          · rw [if_neg (by simp [hlt2])] at hsn
            repeat (first | refine GD ?_ | refine NW fun _ => ?_)
            exact ⟨k + 1, by omega, by omega, ⟨rfl, rfl, rfl, by rw [hsn]; rfl, by rw [hsn]; rfl, rfl, trivial⟩, by rw [hsn]; exact II⟩
end Go.Proofs.YtleajkobmhhacaaGreatDoor
/- Contracts of functions of the given program, and plain laws on what they compute: parts of the proofs of laws. -/

namespace Go.Proofs.YtleajkobmhhacaaGreatDoor
open Go Go.GL

/-! the journal itself -/
def heldC (x : Held) : List Value := .int .i64 x.1 :: encR x.2
def jrnL (j p : Nat) (J : Jrn) (x : Option Addr × Nat) : List Assn :=
  [blk j [.pointer (some ⟨p, 0, none⟩), .int .i64 J.ring, .int .i64 J.hd.turn, .int .i64 J.hd.first, .int .i64 J.hd.gen, .int .i64 J.hd.low, .slice x.1 J.held.length x.2] 257,
   ownS x.1 J.held.length x.2 259 6 (J.held.flatMap heldC)]
def jrn (j p : Nat) (J : Jrn) : Assn := exA (jrnL j p J)
theorem up_jrn (j p : Nat) (J : Jrn) : Up (jrn j p J) := up_exA _
theorem jrnFold (j p : Nat) (J : Jrn) (x : Option Addr × Nat) {N : List Assn} : Imp
    (blk j [.pointer (some ⟨p, 0, none⟩), .int .i64 J.ring, .int .i64 J.hd.turn, .int .i64 J.hd.first, .int .i64 J.hd.gen, .int .i64 J.hd.low, .slice x.1 J.held.length x.2] 257 ::
      ownS x.1 J.held.length x.2 259 6 (J.held.flatMap heldC) :: N) (jrn j p J :: N) := Imp.fold (Ls := jrnL j p J) x
theorem heldC_len (x : Held) : (heldC x).length = 6 := rfl
structure Jrn.rng (J : Jrn) : Prop where
  ring : 1 ≤ J.ring ∧ J.ring ≤ 512
  len : J.held.length ≤ J.ring
  turn : 0 ≤ J.hd.turn ∧ J.hd.turn ≤ 4611686018427387904
  first : 0 ≤ J.hd.first ∧ J.hd.first ≤ 4611686018427387904
  gen : 0 ≤ J.hd.gen ∧ J.hd.gen ≤ 4611686018427387904
set_option maxRecDepth 10000 in
theorem jnext_ro (j p : Nat) (J : Jrn) (hJ : J.rng) : RO G 152 [.pointer (some ⟨j, 0, none⟩)] (jrn j p J) (.int .i64 J.next) := by
  refine RO.enterEx Tryz.func152 rfl (by decide) rfl Tryz.ntmps152 rfl (fun x A hu hA => ?_)
  have hB : ∀ {L}, A ∈ L → Ent L (cellsAt j 0 [.pointer (some ⟨p, 0, none⟩), .int .i64 J.ring, .int .i64 J.hd.turn, .int .i64 J.hd.first, .int .i64 J.hd.gen, .int .i64 J.hd.low, .slice x.1 J.held.length x.2]) := fun m => Ent.of hu hA m (Ent.whole (List.Mem.head _))
  obtain ⟨⟨r1, r2⟩, hlen, ⟨t1, t2⟩, ⟨f1, f2⟩, ⟨g1, g2⟩⟩ := hJ
  repeat (first | refine GD ?_ | refine NW fun _ => ?_)
  refine RD 12 12 (_) ?_
  refine WP 0 ?_
  refine WP 1 ?_
  refine WP 2 ?_
  refine WP 3 ?_
  refine VL 4 (.int .i64 J.hd.first) rfl rfl rfl rfl (.inl ⟨rfl, Ent.one (i := 3) (hB MM) rfl⟩) ?_
  refine WP 5 ?_
  refine WP 6 ?_
  refine WP 7 ?_
  refine VL 8 (.slice x.1 J.held.length x.2) rfl rfl rfl rfl (.inl ⟨rfl, Ent.one (i := 6) (hB MM) rfl⟩) ?_
  refine WP 9 ?_
  refine WP 10 ?_
  refine WP 11 ?_
  refine DN ?_
  repeat (first | refine GD ?_ | refine NW fun _ => ?_)
  exact ret1 rfl ⟨rfl, MM⟩
set_option maxRecDepth 10000 in
theorem jroom_ro (j p : Nat) (J : Jrn) (hJ : J.rng) : RO G 95 [.pointer (some ⟨j, 0, none⟩)] (jrn j p J) (.int .i64 ((J.ring : Int) - J.held.length)) := by
  refine RO.enterEx Tryz.func95 rfl (by decide) rfl Tryz.ntmps95 rfl (fun x A hu hA => ?_)
  have hB : ∀ {L}, A ∈ L → Ent L (cellsAt j 0 [.pointer (some ⟨p, 0, none⟩), .int .i64 J.ring, .int .i64 J.hd.turn, .int .i64 J.hd.first, .int .i64 J.hd.gen, .int .i64 J.hd.low, .slice x.1 J.held.length x.2]) := fun m => Ent.of hu hA m (Ent.whole (List.Mem.head _))
  obtain ⟨⟨r1, r2⟩, hlen, ⟨t1, t2⟩, ⟨f1, f2⟩, ⟨g1, g2⟩⟩ := hJ
  repeat (first | refine GD ?_ | refine NW fun _ => ?_)
  refine RD 11 11 (_) ?_
  refine WP 0 ?_
  refine WP 1 ?_
  refine WP 2 ?_
  refine VL 3 (.int .i64 J.ring) rfl rfl rfl rfl (.inl ⟨rfl, Ent.one (i := 1) (hB MM) rfl⟩) ?_
  refine WP 4 ?_
  refine WP 5 ?_
  refine WP 6 ?_
  refine VL 7 (.slice x.1 J.held.length x.2) rfl rfl rfl rfl (.inl ⟨rfl, Ent.one (i := 6) (hB MM) rfl⟩) ?_
  refine WP 8 ?_
  refine WP 9 ?_
  refine WP 10 ?_
  refine DN ?_
  repeat (first | refine GD ?_ | refine NW fun _ => ?_)
  exact ret1 rfl ⟨rfl, MM⟩
set_option maxRecDepth 10000 in
theorem jat_ro (j p : Nat) (J : Jrn) (hr : 1 ≤ J.ring ∧ J.ring ≤ 512) (seq : Int) (hs : 0 ≤ seq ∧ seq ≤ 9223372036854775807) : RO G 154 [.pointer (some ⟨j, 0, none⟩), .int .i64 seq] (jrn j p J) (.int .i64 (posM J.ring seq)) := by
  refine RO.enterEx Tryz.func154 rfl (by decide) rfl Tryz.ntmps154 rfl (fun x A hu hA => ?_)
  have hB : ∀ {L}, A ∈ L → Ent L (cellsAt j 0 [.pointer (some ⟨p, 0, none⟩), .int .i64 J.ring, .int .i64 J.hd.turn, .int .i64 J.hd.first, .int .i64 J.hd.gen, .int .i64 J.hd.low, .slice x.1 J.held.length x.2]) := fun m => Ent.of hu hA m (Ent.whole (List.Mem.head _))
  obtain ⟨r1, r2⟩ := hr
  have hm := Int.emod_nonneg seq (b := (J.ring : Int)) (by omega)
  have hm2 := Int.emod_lt_of_pos seq (b := (J.ring : Int)) (by omega)
  have e : ((posM J.ring seq : Nat) : Int) = 2 + seq % J.ring := by unfold posM; omega
  rw [e]
  repeat (first | refine GO ?_ | refine NW fun _ => ?_)
  refine WL.step rfl (OP.load1 (v := .int .i64 J.ring) rfl rfl rfl rfl (Ent.one (i := 1) (hB MM) rfl) rfl rfl ?_)
  repeat (first | refine GO ?_ | refine NW fun _ => ?_)
  exact ret1 rfl ⟨rfl, MM⟩
set_option maxHeartbeats 1000000 in
set_option maxRecDepth 10000 in
theorem jsave_ok (j p : Nat) (J : Jrn) (D : Dsk) (hJ : 0 ≤ J.hd.turn ∧ J.hd.turn ≤ 4611686018427387904) (hD : D.ok) (hl : 2 ≤ D.S.length) (hw : D.W.length < 10000) :
    Triple G 202 [.pointer (some ⟨j, 0, none⟩)] [jrn j p J, dsk p D] (fun v M => v = .tuple #[] ∧ M = [jrn j p { J with hd := J.hd.up }, dsk p (saveM D J.hd.up)]) := by
  refine Triple.enter Tryz.func202 rfl (by decide) rfl Tryz.ntmps202 rfl (fun F => ?_)
  refine WC.open P1 (fun x => ?_)
  unfold jrnL
  dsimp only [List.cons_append, List.nil_append]
  have hu : J.hd.up = ⟨J.hd.turn + 1, J.hd.first, J.hd.gen, J.hd.low⟩ := rfl
  have hb := headS_len J.hd.up
  have hi : (0 ≤ (J.hd.turn + 1) % 2 ∧ (J.hd.turn + 1) % 2 < D.S.length) ∧ (headS J.hd.up).length = 64 := ⟨by omega, hb⟩
  have hws := dwrite_ok p D ((J.hd.turn + 1) % 2) (headS J.hd.up)
  repeat (first | refine GO ?_ | refine NW fun _ => ?_)
  refine RD 15 16 (_) ?_
  refine WP 0 ?_
  refine WP 1 ?_
  refine WP 2 ?_
  refine VV 3 ?_
  refine WP 4 ?_
  refine WP 5 ?_
  refine WP 6 ?_
  refine WP 7 ?_
  refine VV 8 ?_
  refine WP 9 ?_
  refine WP 10 ?_
  refine WP 11 ?_
  refine WP 12 ?_
  refine VV 13 ?_
  refine WH.only 14 rfl rfl (by kernel_rfl) rfl (OP.callRT rfl rfl (hsector_rt J.hd.up) (fun _ _ => trivial) rfl rfl (fun v E hE' => ?_))
  obtain ⟨a6, cap6, rfl, rfl⟩ := hE'
  refine ⟨fun _ => II, ?_⟩
  refine WH.only 15 rfl rfl (by kernel_rfl) rfl (OP.call (pre := [dsk p D, ownS a6 (headS J.hd.up).length cap6 5 1 ((headS J.hd.up).map byteV)]) rfl rfl (hws a6 cap6 (by omega) (by omega)) PS rfl rfl (fun v M hM => ?_))
  unfold WrPost at hM
  rw [if_pos hi] at hM
  obtain ⟨rfl, rfl⟩ := hM
  refine ⟨(fun h => nomatch h), ?_⟩
  refine DN ?_
  repeat (first | refine GO ?_ | refine NW fun _ => ?_)
  refine WL.step rfl (OP.call (pre := [dsk p (D.put ((J.hd.turn + 1) % 2).toNat (headS J.hd.up))]) rfl rfl (dflush_ok p _ (Dsk.put_ok hD (by omega) hb) (by simp [Dsk.put]; omega)) PS rfl rfl ?_)
  rintro _ _ ⟨rfl, rfl⟩
  repeat (first | refine GO ?_ | refine NW fun _ => ?_)
  refine ret0n ⟨_, ⟨rfl, rfl⟩, Imp.foldP (N := [dsk p (saveM D J.hd.up), F]) x ?_ II⟩
  unfold jrnL
  exact (by repeat (first | exact Picks.nil _ | apply Picks.cons | exact Pick.here _ _ | apply Pick.there))
end Go.Proofs.YtleajkobmhhacaaGreatDoor
