/- Contracts of functions of the given program, and plain laws: parts of the proofs of laws. -/
import Derived.Test.YteednjcoapmkaaaZVol7
import Derived.Test.YteednjcoapmkaaaZVol11
import Derived.Scope
import Derived.Test.YteednjcoapmkaaaZVol9
/- Contracts of functions of the given program, and plain laws on what they compute: parts of the proofs of laws. -/
namespace Go.Proofs.Yteednjcoapmkaaa
open Go Go.GL

section
variable {J : Jrn} {D : Dsk} {f : Nat} {B : Int}
theorem JInv.wlen (I : JInv J D f B) : D.W.length = J.held.length - f := by rw [I.loose, List.length_map, List.length_drop]
theorem JInv.wget (I : JInv J D f B) {t : Nat} (h : t < D.W.length) : ∃ h' : f + t < J.held.length, D.W[t] = (posM J.ring (J.hd.first + (f + t : Nat)), secH J.held[f + t]) := by
  have hl := I.wlen
  have h' : f + t < J.held.length := by omega
  refine ⟨h', ?_⟩
  have : D.W[t]? = some (posM J.ring (J.hd.first + (f + t : Nat)), secH J.held[f + t]) := by
    rw [I.loose, List.getElem?_map, List.getElem?_drop, List.getElem?_eq_getElem h', ← I.seq _ h']; rfl
  rw [List.getElem?_eq_getElem h] at this
  exact Option.some.inj this
theorem JInv.posne (I : JInv J D f B) {i j : Nat} (hi : i < J.ring) (hj : j < J.ring) (h : i ≠ j) : posM J.ring (J.hd.first + (i : Nat)) ≠ posM J.ring (J.hd.first + (j : Nat)) := by
  intro e
  rcases Nat.lt_or_gt_of_ne h with h1 | h1
  · have := pos_inj I.ring.1 e (by omega) (by omega); omega
  · have := pos_inj I.ring.1 e.symm (by omega) (by omega); omega
/-- sectors ahead of the ring, and those of no loose record, stay -/
theorem JInv.keep (I : JInv J D f B) (kept : Nat → Bool) {p : Nat} (h : ∀ i (_ : i < J.held.length), f ≤ i → posM J.ring (J.hd.first + (i : Nat)) ≠ p) : (D.settle kept).S.getD p [] = D.S.getD p [] := by
  refine settle_other kept D.W 0 D.S p (fun x hx => ?_)
  obtain ⟨t, ht, rfl⟩ := List.getElem_of_mem hx
  obtain ⟨h', e⟩ := I.wget ht
  rw [e]
  exact h _ h' (by omega)
theorem JInv.keepHead (I : JInv J D f B) (kept : Nat → Bool) {p : Nat} (hp : p < 2) : (D.settle kept).S.getD p [] = D.S.getD p [] :=
  I.keep kept fun i _ _ e => by have := (pos_bd I.ring.1 (J.hd.first + (i : Nat))).1; omega
theorem JInv.atF (I : JInv J D f B) (kept : Nat → Bool) {i : Nat} (h : i < J.held.length) (hf : i < f) : (D.settle kept).S.getD (posM J.ring (J.hd.first + (i : Nat))) [] = secH J.held[i] := by
  have hl := I.len
  rw [I.keep kept (fun j hj hfj => I.posne (by omega) (by omega) (by omega)), I.durable i h hf]
theorem JInv.atL (I : JInv J D f B) (kept : Nat → Bool) {i : Nat} (h : i < J.held.length) (hf : f ≤ i) : (D.settle kept).S.getD (posM J.ring (J.hd.first + (i : Nat))) [] = if kept (i - f) = true then secH J.held[i] else D.S.getD (posM J.ring (J.hd.first + (i : Nat))) [] := by
  have hl := I.len
  have hw := I.wlen
  have ht : i - f < D.W.length := by omega
  obtain ⟨h', e⟩ := I.wget ht
  have e2 : f + (i - f) = i := by omega
  have hpb := pos_bd I.ring.1 (J.hd.first + (i : Nat))
  have hlen := I.ring.2.2
  have := settle_at kept D.W 0 D.S (i - f) ht (fun u hu hne => by
    obtain ⟨hu', eu⟩ := I.wget hu
    rw [eu, e]
    exact I.posne (by omega) (by omega) (by omega)) (by rw [e]; simp only [e2]; omega)
  rw [e] at this
  simp only [e2, Nat.zero_add] at this
  exact this
theorem JInv.atN (I : JInv J D f B) (kept : Nat → Bool) (h : J.held.length < J.ring) : (D.settle kept).S.getD (posM J.ring (J.hd.first + (J.held.length : Nat))) [] = D.S.getD (posM J.ring (J.hd.first + (J.held.length : Nat))) [] :=
  I.keep kept fun i hi _ => I.posne (by omega) h (by omega)
/-- what a settled disk's ring holds -/
theorem JInv.any (I : JInv J D f B) (kept : Nat → Bool) (p : Nat) : (D.settle kept).S.getD p [] = D.S.getD p [] ∨ ∃ i, ∃ h : i < J.held.length, f ≤ i ∧ (D.settle kept).S.getD p [] = secH J.held[i] := by
  by_cases h : ∃ i, ∃ _ : i < J.held.length, f ≤ i ∧ posM J.ring (J.hd.first + (i : Nat)) = p
  · obtain ⟨i, hi, hf, rfl⟩ := h
    rw [I.atL kept hi hf]
    by_cases hk : kept (i - f) = true
    · rw [if_pos hk]; exact .inr ⟨i, hi, hf, rfl⟩
    · rw [if_neg hk]; exact .inl rfl
  · exact .inl (I.keep kept fun i hi hf e => h ⟨i, hi, hf, e⟩)
theorem JInv.dec (I : JInv J D f B) (hB : B ≤ widest) {i : Nat} (h : i < J.held.length) : decR (secH J.held[i]) = .ok J.held[i] := by
  have h1 := I.right _ (List.getElem_mem h)
  have h2 := I.gens i h
  have h3 := I.hdr
  have h4 := I.bound
  have hlow : 0 ≤ lowAt J.hd.low J.held i := by
    clear h2
    induction i with
    | zero => exact h3.2.2.1
    | succ i ih =>
      have hi : i < J.held.length := by omega
      rw [lowAt_succ _ _ hi]
      have := ih hi (I.right _ (List.getElem_mem hi))
      have := (I.gens i hi).1
      omega
  exact decR_enc h1 ⟨by omega, by omega⟩
theorem low_le (I : JInv J D f B) {i : Nat} (h : i ≤ J.held.length) : lowAt J.hd.low J.held i ≤ J.hd.gen := by
  cases i with
  | zero => exact I.hdr.2.2.2
  | succ i => rw [lowAt_succ _ _ (by omega)]; exact (I.gens i (by omega)).2
theorem JInv.lowAt_new (I : JInv J D f B) {i : Nat} (h : i ≤ J.held.length) (hf : f < i) : lowAt J.hd.low J.held i = J.hd.gen := by
  obtain ⟨k, rfl⟩ : ∃ k, i = k + 1 := ⟨i - 1, by omega⟩
  rw [lowAt_succ _ _ (by omega)]
  exact I.new k (by omega) (by omega)
/-- nothing further is found where the disk is as it was -/
theorem JInv.stops (I : JInv J D f B) (_ : B ≤ widest) {p : Nat} (hp : p ≤ J.held.length) (hf : f ≤ p) : fits (D.S.getD (posM J.ring (J.hd.first + (p : Nat))) []) (J.hd.first + (p : Nat)) (lowAt J.hd.low J.held p) J.hd.gen = none := by
  by_cases h : f = p
  · subst h; exact I.stop
  · refine fits_none (fun x hx h1 h2 h3 => ?_)
    obtain ⟨_, _, e3, e4⟩ := pos_bd I.ring.1 (J.hd.first + (p : Nat))
    rw [e3] at hx
    have := (I.stale _ e4 x hx).2 (by omega)
    rw [I.lowAt_new hp (by omega)] at h2
    omega
/-- how many of the loose records are kept, without a gap -/
def leadK (kept : Nat → Bool) : Nat → Nat → Nat
  | 0, _ => 0
  | n + 1, k => if kept k = true then leadK kept n (k + 1) + 1 else 0
theorem leadK_le (kept : Nat → Bool) : ∀ n k, leadK kept n k ≤ n
  | 0, _ => Nat.le_refl _
  | n + 1, k => by unfold leadK; split; have := leadK_le kept n (k + 1); omega; omega
theorem leadK_hit (kept : Nat → Bool) : ∀ n k j, j < leadK kept n k → kept (k + j) = true
  | 0, _, _, h => by simp [leadK] at h
  | n + 1, k, j, h => by
    unfold leadK at h
    split at h
    · rename_i hk
      cases j with
      | zero => exact hk
      | succ j => have := leadK_hit kept n (k + 1) j (by omega); rwa [show k + 1 + j = k + (j + 1) by omega] at this
    · omega
theorem leadK_miss (kept : Nat → Bool) : ∀ n k, leadK kept n k < n → kept (k + leadK kept n k) = false
  | 0, _, h => by omega
  | n + 1, k, h => by
    unfold leadK at h ⊢
    split
    · rename_i hk
      rw [if_pos hk] at h
      have := leadK_miss kept n (k + 1) (by omega)
      rwa [show k + 1 + leadK kept n (k + 1) = k + (leadK kept n (k + 1) + 1) by omega] at this
    · rename_i hk; simpa using hk
theorem JInv.hok (I : JInv J D f B) (hB : B + 2 ≤ widest) : J.hd.ok := by
  have h1 := I.hdr
  have h2 := I.bound
  exact ⟨by omega, by omega, by omega, by omega⟩
theorem mod2 (t : Int) (_ : 0 ≤ t) : (t % 2 = 0 ∧ (t + 1) % 2 = 1 ∧ (t % 2).toNat = 0 ∧ (1 - t % 2).toNat = 1 ∧ ((t + 1) % 2).toNat = 1 ∧ (1 - (t + 1) % 2).toNat = 0) ∨ (t % 2 = 1 ∧ (t + 1) % 2 = 0 ∧ (t % 2).toNat = 1 ∧ (1 - t % 2).toNat = 0 ∧ ((t + 1) % 2).toNat = 0 ∧ (1 - (t + 1) % 2).toNat = 1) := by omega
theorem JInv.newest (I : JInv J D f B) (hB : B + 2 ≤ widest) {a b : List UInt8} (ha : a = D.S.getD 0 []) (hb : b = D.S.getD 1 []) : newestM a b = some J.hd := by
  have hk := I.hok hB
  have h1 := headOf_headS hk
  have hh := I.head
  have ho := I.other
  have hz0 : headOf (headS J.hd) (J.hd.turn % 2) = some J.hd := by rw [h1, if_pos rfl]
  subst ha hb
  unfold newestM
  rcases mod2 J.hd.turn I.hdr.1 with ⟨e1, _, e3, e4, _, _⟩ | ⟨e1, _, e3, e4, _, _⟩
  · rw [e3] at hh
    rw [e4, e1] at ho
    rw [e1] at hz0
    rw [hh, hz0]
    cases hy : headOf (D.S.getD 1 []) 1 with
    | none => rfl
    | some y =>
      have := ho y hy
      dsimp only
      rw [if_neg (by omega)]
  · rw [e3] at hh
    rw [e4, e1] at ho
    rw [e1] at hz0
    rw [hh, hz0]
    cases hy : headOf (D.S.getD 0 []) 0 with
    | none => rfl
    | some y =>
      have := ho y hy
      dsimp only
      rw [if_pos (by omega)]
theorem save_S (D : Dsk) (h : Hd) : (saveM D h).S = (D.flush).S.set (h.turn % 2).toNat (headS h) ∧ (saveM D h).W = [] := by
  refine ⟨?_, rfl⟩
  show settleF (fun _ => true) 0 (D.W ++ [((h.turn % 2).toNat, headS h)]) D.S = _
  rw [settleF_snoc, if_pos rfl]
  rfl
theorem flush_nil {D : Dsk} (h : D.W = []) : D.flush = D := by
  obtain ⟨S, W⟩ := D
  dsimp only at h
  subst h
  rfl
theorem getD_set_ne {S : List (List UInt8)} {i p : Nat} {x : List UInt8} (h : i ≠ p) : (S.set i x).getD p [] = S.getD p [] := by
  rw [List.getD_eq_getElem?_getD, List.getD_eq_getElem?_getD, List.getElem?_set_ne h]
theorem getD_set_eq {S : List (List UInt8)} {i : Nat} {x : List UInt8} (h : i < S.length) : (S.set i x).getD i [] = x := by
  rw [List.getD_eq_getElem?_getD, List.getElem?_set_self h]; rfl
theorem save_ok {D : Dsk} (h : D.ok) (hl : 2 ≤ D.S.length) (x : Hd) : (saveM D x).ok := by
  unfold saveM
  exact Dsk.settle_ok (Dsk.put_ok h (by omega) (headS_len x)) _
theorem save_len (D : Dsk) (x : Hd) : (saveM D x).S.length = D.S.length := Dsk.settle_len _ _
/-- BEHIND A CRASH what was fast is held, and of what wasn't the first ones alone; the journal goes on -/
theorem JInv.crash (I : JInv J D f B) (hB : B + 2 ≤ widest) (kept : Nat → Bool) : ∃ p, f ≤ p ∧ p ≤ J.held.length ∧ (∀ n, (∀ k, kept k = true) → n = J.held.length → p = n) ∧
    openM (D.settle kept) J.ring = .ok (⟨J.ring, { J.hd with gen := J.hd.gen + 1, turn := J.hd.turn + 1 }, J.held.take p⟩, saveM (D.settle kept) { J.hd with gen := J.hd.gen + 1, turn := J.hd.turn + 1 }) ∧
    JInv ⟨J.ring, { J.hd with gen := J.hd.gen + 1, turn := J.hd.turn + 1 }, J.held.take p⟩ (saveM (D.settle kept) { J.hd with gen := J.hd.gen + 1, turn := J.hd.turn + 1 }) p (B + 2) := by
  obtain ⟨r1, r2, r3⟩ := I.ring
  have hlen := I.len
  have hfl := I.fle
  obtain ⟨t0, t1, t2, t3⟩ := I.hdr
  have hbd := I.bound
  obtain ⟨n, hn⟩ : ∃ n, n = leadK kept (J.held.length - f) 0 := ⟨_, rfl⟩
  have hn1 := leadK_le kept (J.held.length - f) 0
  have hn2 : ∀ j, j < n → kept j = true := fun j hj => by have := leadK_hit kept (J.held.length - f) 0 j (by omega); rwa [Nat.zero_add] at this
  have hn3 : n < J.held.length - f → kept n = false := fun h => by have := leadK_miss kept (J.held.length - f) 0 (by omega); rwa [Nat.zero_add, ← hn] at this
  have hW : (D.settle kept).W = [] := rfl
  have hcur : ∀ i, (D.settle kept).cur i = (D.settle kept).S.getD i [] := fun i => rfl
  have hlenS : (D.settle kept).S.length = D.S.length := Dsk.settle_len _ _
  have hrec : ∀ i (h : i < J.held.length), i < f + n → (D.settle kept).S.getD (posM J.ring (J.hd.first + (i : Nat))) [] = secH J.held[i] := fun i h hi => by
    by_cases hif : i < f
    · exact I.atF kept h hif
    · rw [I.atL kept h (by omega), if_pos (hn2 _ (by omega))]
  have hstop : f + n < J.ring → fits ((D.settle kept).S.getD (posM J.ring (J.hd.first + (f + n : Nat))) []) (J.hd.first + (f + n : Nat)) (lowAt J.hd.low J.held (f + n)) J.hd.gen = none := fun h => by
    by_cases hL : f + n < J.held.length
    · rw [I.atL kept hL (by omega), show f + n - f = n by omega, if_neg (by rw [hn3 (by omega)]; decide)]
      exact I.stops (by omega) (by omega) (by omega)
    · have : f + n = J.held.length := by omega
      rw [this, I.atN kept (by omega)]
      exact I.stops (by omega) (Nat.le_refl _) (by omega)
  have hscan : scanM (D.settle kept) J.ring J.hd = J.held.take (f + n) := by
    refine scan_take (by omega) (by omega) (fun i hi => ?_) (fun h => ?_)
    · rw [hcur, hrec i (by omega) hi]
      exact fits_ok (I.dec (by omega) (by omega)) (I.seq i (by omega)) (I.gens i (by omega)).1 (I.gens i (by omega)).2
    · rw [hcur]; exact hstop h
  have hnew : newestM ((D.settle kept).cur 0) ((D.settle kept).cur 1) = some J.hd :=
    I.newest hB (by rw [hcur]; exact I.keepHead kept (by decide)) (by rw [hcur]; exact I.keepHead kept (by decide))
  have hsv := save_S (D.settle kept) { J.hd with gen := J.hd.gen + 1, turn := J.hd.turn + 1 }
  rw [flush_nil hW] at hsv
  have hsD : ∀ q, (saveM (D.settle kept) { J.hd with gen := J.hd.gen + 1, turn := J.hd.turn + 1 }).S.getD (2 + q) [] = (D.settle kept).S.getD (2 + q) [] := fun q => by
    rw [hsv.1, getD_set_ne (by dsimp only; omega)]
  have hsP : ∀ a, (saveM (D.settle kept) { J.hd with gen := J.hd.gen + 1, turn := J.hd.turn + 1 }).S.getD (posM J.ring a) [] = (D.settle kept).S.getD (posM J.ring a) [] := fun a => by
    rw [(pos_bd r1 a).2.2.1]; exact hsD _
  have hlt : (J.held.take (f + n)).length = f + n := by rw [List.length_take]; omega
  have hget : ∀ i (h : i < (J.held.take (f + n)).length), (J.held.take (f + n))[i] = J.held[i]'(by omega) := fun i h => List.getElem_take
  have hlow : ∀ i, i ≤ f + n → lowAt J.hd.low (J.held.take (f + n)) i = lowAt J.hd.low J.held i := fun i hi => by
    unfold lowAt
    split
    · rfl
    · rw [List.getD_eq_getElem?_getD, List.getD_eq_getElem?_getD, List.getElem?_take, if_pos (by omega)]
  refine ⟨f + n, by omega, by omega, fun m hk hm => ?_, ?_, ?_⟩
  · by_cases h : n < J.held.length - f
    · have := hn3 h; rw [hk] at this; cases this
    · omega
  · unfold openM
    rw [if_neg (by rw [hlenS]; omega), hnew]
    dsimp only
    rw [Int.toNat_natCast, hscan]
  · refine ⟨save_ok (Dsk.settle_ok I.dok kept) (by rw [hlenS]; omega) _, ⟨r1, r2, by rw [save_len, hlenS]; exact r3⟩, ⟨by dsimp only; omega, t1, t2, by dsimp only; omega⟩, by dsimp only; rw [hlt]; omega, by dsimp only; rw [hlt]; omega, by dsimp only; rw [hlt]; exact Nat.le_refl _, ?_, ?_, ?_, ?_, ?_, ?_, ?_, ?_, ?_, ?_⟩
    · intro i h
      rw [hget i h]
      exact I.seq i _
    · intro x hx
      exact I.right x (List.mem_of_mem_take hx)
    · intro i h
      dsimp only at h ⊢
      rw [hget i h, hlow i (by omega)]
      have := I.gens i (by omega)
      exact ⟨this.1, by omega⟩
    · intro i h hi
      dsimp only at h
      omega
    · dsimp only
      rw [hsv.1, getD_set_eq (by rw [hlenS]; dsimp only; omega)]
    · intro h' hh
      dsimp only at hh ⊢
      rw [hsv.1] at hh
      rcases mod2 J.hd.turn t0 with ⟨e1, e2, e3, e4, e5, e6⟩ | ⟨e1, e2, e3, e4, e5, e6⟩
      · rw [e5, e6, e2, getD_set_ne (by decide), I.keepHead kept (by decide)] at hh
        have := I.head
        rw [e3] at this
        rw [this, headOf_headS (I.hok hB), e1, if_pos (by decide)] at hh
        cases hh
        omega
      · rw [e5, e6, e2, getD_set_ne (by decide), I.keepHead kept (by decide)] at hh
        have := I.head
        rw [e3] at this
        rw [this, headOf_headS (I.hok hB), e1, if_pos (by decide)] at hh
        cases hh
        omega
    · intro i h hi
      dsimp only at h ⊢
      rw [hsP, hget i h, hrec i (by omega) (by omega)]
    · rw [hsv.2]
      dsimp only
      rw [List.drop_eq_nil_of_le (by rw [hlt]; exact Nat.le_refl _)]
      rfl
    · intro q hq x hx
      dsimp only at hq ⊢
      rw [hsD] at hx
      have hg : x.1 ≤ J.hd.gen := by
        rcases I.any kept (2 + q) with h | ⟨i, hi, _, h⟩
        · rw [h] at hx
          exact (I.stale q hq x hx).1
        · rw [h, I.dec (by omega) hi] at hx
          cases hx
          exact (I.gens i hi).2
      exact ⟨by omega, fun _ => by omega⟩
    · dsimp only
      rw [hsP]
      rw [hlow _ (Nat.le_refl _)]
      refine fits_none (fun x hx h1 h2 h3 => ?_)
      by_cases hr : f + n < J.ring
      · have hno := hstop hr
        obtain ⟨_, _, e3, e4⟩ := pos_bd r1 (J.hd.first + ((f + n : Nat) : Int))
        have hg : x.1 ≤ J.hd.gen := by
          rcases I.any kept (posM J.ring (J.hd.first + ((f + n : Nat) : Int))) with h | ⟨i, hi, _, h⟩
          · rw [h, e3] at hx
            exact (I.stale _ e4 x hx).1
          · rw [h, I.dec (by omega) hi] at hx
            cases hx
            exact (I.gens i hi).2
        rw [fits_ok hx h1 h2 hg] at hno
        cases hno
      · have hfr : f + n = J.ring := by omega
        have h0 : 0 < J.held.length := by omega
        have := hrec 0 h0 (by omega)
        rw [hfr, pos_wrap] at hx
        rw [show J.hd.first + ((0 : Nat) : Int) = J.hd.first by omega] at this
        rw [this, I.dec (by omega) h0] at hx
        cases hx
        have := I.seq 0 h0
        omega
end
end Go.Proofs.Yteednjcoapmkaaa
/- Contracts of functions of the given program, and plain laws on what they compute: parts of the proofs of laws. -/
namespace Go.Proofs.Yteednjcoapmkaaa
open Go Go.GL

section
variable {J : Jrn} {D : Dsk} {f : Nat} {B : Int}
/-- a record is put behind -/
theorem JInv.append (I : JInv J D f B) {r : Rec} {J' : Jrn} {D' : Dsk} (h : appendM J D r = .ok (J', D')) : JInv J' D' f (B + 2) ∧ J'.hd = J.hd ∧ J'.ring = J.ring ∧ J'.held = J.held ++ [(J.hd.gen, setSeq r J.next)] := by
  unfold appendM at h
  split at h
  · cases h
  rename_i hfull
  split at h
  · rename_i hr
    cases h
    obtain ⟨r1, r2, r3⟩ := I.ring
    have hlen := I.len
    have hfl := I.fle
    have hbd := I.bound
    have hpb := pos_bd r1 J.next
    have hll : (J.held ++ [(J.hd.gen, setSeq r J.next)]).length = J.held.length + 1 := by simp
    have hget : ∀ i (h : i < J.held.length), (J.held ++ [(J.hd.gen, setSeq r J.next)])[i]'(by omega) = J.held[i] := fun i h => List.getElem_append_left h
    have hgetn : (J.held ++ [(J.hd.gen, setSeq r J.next)])[J.held.length]'(by omega) = (J.hd.gen, setSeq r J.next) := by simp
    have hlow : ∀ i, i ≤ J.held.length → lowAt J.hd.low (J.held ++ [(J.hd.gen, setSeq r J.next)]) i = lowAt J.hd.low J.held i := fun i hi => by
      unfold lowAt
      split
      · rfl
      · rw [List.getD_eq_getElem?_getD, List.getD_eq_getElem?_getD, List.getElem?_append_left (by omega)]
    refine ⟨⟨Dsk.put_ok I.dok (by omega) (sectorM_len (bodyM_len hr.1)), ⟨r1, r2, r3⟩, I.hdr, by dsimp only; rw [hll]; omega, by dsimp only; rw [hll]; omega, by dsimp only; rw [hll]; omega, ?_, ?_, ?_, ?_, I.head, I.other, ?_, ?_, I.stale, ?_⟩, rfl, rfl, rfl⟩
    · intro i h
      dsimp only at h ⊢
      by_cases hi : i < J.held.length
      · rw [hget i hi]; exact I.seq i hi
      · have : i = J.held.length := by omega
        subst this
        rw [hgetn]
        rfl
    · intro x hx
      rcases List.mem_append.1 hx with hx | hx
      · exact I.right x hx
      · rw [List.mem_singleton.1 hx]; exact hr.1
    · intro i h
      dsimp only at h ⊢
      by_cases hi : i < J.held.length
      · rw [hget i hi, hlow i (by omega)]; exact I.gens i hi
      · have : i = J.held.length := by omega
        subst this
        rw [hgetn, hlow _ (Nat.le_refl _)]
        exact ⟨low_le I (Nat.le_refl _), Int.le_refl _⟩
    · intro i h hi
      dsimp only at h ⊢
      by_cases hi2 : i < J.held.length
      · rw [hget i hi2]; exact I.new i hi2 hi
      · have : i = J.held.length := by omega
        subst this
        rw [hgetn]
    · intro i h hi
      dsimp only at h ⊢
      rw [hget i (by omega)]
      exact I.durable i (by omega) hi
    · dsimp only
      rw [List.drop_append_of_le_length hfl, List.map_append, ← I.loose]
      rfl
    · dsimp only
      rw [hlow f hfl]
      exact I.stop
  · cases h
/-- all is fast -/
theorem JInv.flush (I : JInv J D f B) (hB : B + 2 ≤ widest) : JInv J D.flush J.held.length B := by
  obtain ⟨r1, r2, r3⟩ := I.ring
  have hlen := I.len
  have hfl := I.fle
  have hlenS : D.flush.S.length = D.S.length := Dsk.settle_len _ _
  have hrec : ∀ i (h : i < J.held.length), D.flush.S.getD (posM J.ring (J.hd.first + (i : Nat))) [] = secH J.held[i] := fun i h => by
    by_cases hif : i < f
    · exact I.atF _ h hif
    · unfold Dsk.flush
      rw [I.atL _ h (by omega), if_pos rfl]
  have hk0 : ∀ p, p < 2 → D.flush.S.getD p [] = D.S.getD p [] := fun p hp => I.keepHead _ hp
  refine ⟨Dsk.settle_ok I.dok _, ⟨r1, r2, by rw [hlenS]; exact r3⟩, I.hdr, I.bound, I.len, Nat.le_refl _, I.seq, I.right, I.gens, fun i h hi => by omega, ?_, ?_, fun i h _ => hrec i h, ?_, ?_, ?_⟩
  · rw [hk0 _ (by have := mod2 J.hd.turn I.hdr.1; omega)]; exact I.head
  · intro h' hh
    rw [hk0 _ (by have := mod2 J.hd.turn I.hdr.1; omega)] at hh
    exact I.other h' hh
  · rw [List.drop_eq_nil_of_le (Nat.le_refl _)]; rfl
  · intro q hq x hx
    rcases I.any (fun _ => true) (2 + q) with h | ⟨i, hi, hf, h⟩
    · have h' : D.flush.S.getD (2 + q) [] = D.S.getD (2 + q) [] := h
      rw [h'] at hx
      have := I.stale q hq x hx
      exact ⟨this.1, fun h2 => this.2 (by omega)⟩
    · have h' : D.flush.S.getD (2 + q) [] = secH J.held[i] := h
      rw [h', I.dec (by omega) hi] at hx
      cases hx
      have := I.seq i hi
      exact ⟨(I.gens i hi).2, fun h2 => by omega⟩
  · by_cases hr : J.held.length < J.ring
    · have := I.atN (fun _ => true) hr
      have h' : D.flush.S.getD (posM J.ring (J.hd.first + (J.held.length : Nat))) [] = D.S.getD (posM J.ring (J.hd.first + (J.held.length : Nat))) [] := this
      rw [h']
      exact I.stops (by omega) (Nat.le_refl _) hfl
    · have hfr : J.held.length = J.ring := by omega
      have h0 : 0 < J.held.length := by omega
      refine fits_none (fun x hx h1 h2 h3 => ?_)
      have := hrec 0 h0
      rw [hfr, pos_wrap] at hx
      rw [show J.hd.first + ((0 : Nat) : Int) = J.hd.first by omega] at this
      rw [this, I.dec (by omega) h0] at hx
      cases hx
      have := I.seq 0 h0
      omega
theorem flush_flush (D : Dsk) : D.flush.flush = D.flush := flush_nil rfl
/-- the first ones are dropped -/
theorem JInv.trim (I : JInv J D f B) (hB : B + 2 ≤ widest) {k : Int} {J' : Jrn} {D' : Dsk} (h : trimM J D k = .ok (J', D')) :
    (k = 0 ∧ J' = J ∧ D' = D) ∨ (0 < k ∧ k ≤ J.held.length ∧ J'.held = J.held.drop k.toNat ∧ J'.hd.first = J.hd.first + k ∧ J'.ring = J.ring ∧ JInv J' D' J'.held.length (B + 2) ∧ D'.W = []) := by
  unfold trimM at h
  split at h
  · cases h
  rename_i hk
  split at h
  · rename_i h0
    cases h
    exact .inl ⟨h0, rfl, rfl⟩
  rename_i h0
  cases h
  have I2 := I.flush hB
  obtain ⟨r1, r2, r3⟩ := I2.ring
  obtain ⟨t0, t1, t2, t3⟩ := I2.hdr
  have hlen := I2.len
  have hbd := I2.bound
  obtain ⟨n, rfl⟩ : ∃ n : Nat, k = n := ⟨k.toNat, by omega⟩
  rw [Int.toNat_natCast]
  have hn0 : 0 < n := by omega
  have hnl : n ≤ J.held.length := by omega
  have hlow1 : (J.held.getD (n - 1) (0, rec0)).1 = lowAt J.hd.low J.held n := by
    unfold lowAt; rw [if_neg (by omega)]
  rw [hlow1]
  have hlle := low_le I2 hnl
  have hlnn : 0 ≤ lowAt J.hd.low J.held n := by
    have hall : ∀ i, i ≤ J.held.length → 0 ≤ lowAt J.hd.low J.held i := by
      intro i
      induction i with
      | zero => intro _; exact t2
      | succ i ih =>
        intro hi
        rw [lowAt_succ _ _ (by omega)]
        have := ih (by omega)
        have := (I2.gens i (by omega)).1
        omega
    exact hall n hnl
  have hsv := save_S D.flush { J.hd with turn := J.hd.turn + 1, first := J.hd.first + (n : Int), low := lowAt J.hd.low J.held n }
  rw [flush_flush] at hsv
  have hsD : ∀ q, (saveM D.flush { J.hd with turn := J.hd.turn + 1, first := J.hd.first + (n : Int), low := lowAt J.hd.low J.held n }).S.getD (2 + q) [] = D.flush.S.getD (2 + q) [] := fun q => by
    rw [hsv.1, getD_set_ne (by dsimp only; omega)]
  have hsP : ∀ a, (saveM D.flush { J.hd with turn := J.hd.turn + 1, first := J.hd.first + (n : Int), low := lowAt J.hd.low J.held n }).S.getD (posM J.ring a) [] = D.flush.S.getD (posM J.ring a) [] := fun a => by
    rw [(pos_bd r1 a).2.2.1]; exact hsD _
  have hlt : (J.held.drop n).length = J.held.length - n := List.length_drop
  have hget : ∀ i (h : i < (J.held.drop n).length), (J.held.drop n)[i] = J.held[n + i]'(by omega) := fun i h => List.getElem_drop
  have hlow : ∀ i, i ≤ J.held.length - n → lowAt (lowAt J.hd.low J.held n) (J.held.drop n) i = lowAt J.hd.low J.held (n + i) := fun i hi => by
    cases i with
    | zero => rfl
    | succ i =>
      rw [lowAt_succ _ _ (by omega), hget, ← Nat.add_assoc, lowAt_succ _ _ (by omega)]
  have hf : J.hd.first + (n : Int) + ((J.held.drop n).length : Int) = J.hd.first + (J.held.length : Int) := by omega
  refine .inr ⟨by omega, by omega, rfl, rfl, rfl, ⟨save_ok I2.dok (by omega) _, ⟨r1, r2, by rw [save_len]; exact r3⟩, ⟨by dsimp only; omega, by dsimp only; omega, hlnn, hlle⟩, by dsimp only; omega, by dsimp only; omega, Nat.le_refl _, ?_, ?_, ?_, fun i h hi => by omega, ?_, ?_, ?_, ?_, ?_, ?_⟩, rfl⟩
  · intro i h
    dsimp only at h ⊢
    rw [hget i h, I2.seq]
    omega
  · intro x hx
    exact I2.right x (List.mem_of_mem_drop hx)
  · intro i h
    dsimp only at h ⊢
    rw [hget i h, hlow i (by omega)]
    exact I2.gens (n + i) (by omega)
  · dsimp only
    rw [hsv.1, getD_set_eq (by omega)]
  · intro h' hh
    dsimp only at hh ⊢
    rw [hsv.1] at hh
    have hh2 := headOf_headS (I.hok hB)
    rcases mod2 J.hd.turn t0 with ⟨e1, e2, e3, e4, e5, e6⟩ | ⟨e1, e2, e3, e4, e5, e6⟩
    · rw [e5, e6, e2, getD_set_ne (by decide)] at hh
      have := I2.head
      rw [e3] at this
      rw [this, hh2, e1, if_pos (by decide)] at hh
      cases hh
      omega
    · rw [e5, e6, e2, getD_set_ne (by decide)] at hh
      have := I2.head
      rw [e3] at this
      rw [this, hh2, e1, if_pos (by decide)] at hh
      cases hh
      omega
  · intro i h _
    dsimp only at h ⊢
    rw [hsP, hget i h, show J.hd.first + (n : Int) + (i : Int) = J.hd.first + ((n + i : Nat) : Int) by omega]
    exact I2.durable (n + i) (by omega) (by omega)
  · rw [hsv.2]
    dsimp only
    rw [List.drop_eq_nil_of_le (Nat.le_refl _)]
    rfl
  · intro q hq x hx
    dsimp only at hq ⊢
    rw [hsD] at hx
    have := I2.stale q hq x hx
    exact ⟨this.1, fun h2 => this.2 (by omega)⟩
  · dsimp only
    rw [hsP, hf, hlow _ (by omega), show n + (J.held.drop n).length = J.held.length by omega]
    exact I2.stop
end
/-- a journal on an empty disk -/
theorem JInv.fresh {n ring : Nat} (h1 : 1 ≤ ring) (h2 : ring ≤ 512) (h3 : 2 + ring ≤ n) (h4 : n ≤ 1024) :
    openM (Dsk.new n) ring = .ok (⟨ring, ⟨1, 1, 1, 0⟩, []⟩, saveM (Dsk.new n) ⟨1, 1, 1, 0⟩) ∧ JInv ⟨ring, ⟨1, 1, 1, 0⟩, []⟩ (saveM (Dsk.new n) ⟨1, 1, 1, 0⟩) 0 3 := by
  have hS : (Dsk.new n).S = List.replicate n zero64 := by
    unfold Dsk.new
    rw [show (max 0 (min (n : Int) 1024)).toNat = n by omega]
  have hget : ∀ p, p < n → (Dsk.new n).S.getD p [] = zero64 := fun p hp => by
    rw [hS, List.getD_eq_getElem?_getD, List.getElem?_replicate, if_pos hp]; rfl
  have hcur : ∀ p, p < n → (Dsk.new n).cur p = zero64 := fun p hp => hget p hp
  have hl : (Dsk.new n).S.length = n := by rw [hS]; exact List.length_replicate
  have hpb := fun a => pos_bd h1 a
  have hfz : ∀ s l g, fits zero64 s l g = none := fun s l g => fits_none fun x hx _ _ _ => decR_zero x hx
  have hscan : scanM (Dsk.new n) ring hd0 = [] := by
    have := scan_take (D := Dsk.new n) (ring := ring) (h := hd0) (held := []) (p := 0) (Nat.zero_le _) (Nat.le_refl _) (fun i hi => by omega) (fun _ => by
      rw [hcur _ (by have := hpb (hd0.first + ((0 : Nat) : Int)); omega)]; exact hfz _ _ _)
    exact this
  have hnew : newestM ((Dsk.new n).cur 0) ((Dsk.new n).cur 1) = some hd0 := by
    rw [hcur 0 (by omega), hcur 1 (by omega)]
    unfold newestM
    rw [headOf_zero, headOf_zero]
    dsimp only
    rw [if_pos ⟨rfl, rfl⟩]
  have hsv := save_S (Dsk.new n) ⟨1, 1, 1, 0⟩
  rw [flush_nil rfl] at hsv
  have hsD : ∀ q, q < ring → (saveM (Dsk.new n) ⟨1, 1, 1, 0⟩).S.getD (2 + q) [] = zero64 := fun q hq => by
    rw [hsv.1, getD_set_ne (by show (1 : Nat) ≠ 2 + q; omega)]; exact hget _ (by omega)
  refine ⟨?_, ⟨save_ok (Dsk.new_ok _) (by omega) _, ⟨h1, h2, by rw [save_len]; dsimp only; omega⟩, ⟨(by decide : (0 : Int) ≤ 1), (by decide : (1 : Int) ≤ 1), (by decide : (0 : Int) ≤ 0), (by decide : (0 : Int) ≤ 1)⟩, by simp, Nat.zero_le _, Nat.le_refl _, (fun i h => by simp at h), (fun x hx => by cases hx), (fun i h => by simp at h), (fun i h => by simp at h), ?_, ?_, (fun i h => by simp at h), rfl, ?_, ?_⟩⟩
  · unfold openM
    rw [if_neg (by rw [hl]; omega), hnew]
    dsimp only
    rw [Int.toNat_natCast, hscan]
    rfl
  · rw [hsv.1]
    exact getD_set_eq (by rw [hl]; show (1 : Nat) < n; omega)
  · intro h' hh
    have hh : headOf (((Dsk.new n).S.set 1 (headS ⟨1, 1, 1, 0⟩)).getD 0 []) 0 = some h' := by rw [hsv.1] at hh; exact hh
    rw [getD_set_ne (show (1 : Nat) ≠ 0 by decide), hget 0 (by omega), headOf_zero] at hh
    cases hh
  · intro q hq x hx
    rw [hsD q hq] at hx
    exact absurd hx (decR_zero x)
  · obtain ⟨_, _, e3, e4⟩ := hpb ((1 : Int) + ((0 : Nat) : Int))
    show fits ((saveM (Dsk.new n) ⟨1, 1, 1, 0⟩).S.getD (posM ring ((1 : Int) + ((0 : Nat) : Int))) []) _ _ _ = none
    rw [e3, hsD _ e4]
    exact hfz _ _ _
end Go.Proofs.Yteednjcoapmkaaa
/- Contracts of functions of the given program, and plain laws on what they compute: parts of the proofs of laws. -/
namespace Go.Proofs.Yteednjcoapmkaaa
open Go Go.GL

/-! a volume: the plain model -/
/-- what a block's sector tells: the record's number, its data -/
abbrev Plc := Int × ByteArray
def plc0 : Plc := (0, ⟨#[]⟩)
def plcB (x : Plc) (block : Int) : List UInt8 := numB (clampN x.1) ++ numB (clampN block) ++ textB x.2
def plcS (x : Plc) (block : Int) : List UInt8 := sectorM (plcB x block)
/-- a place that is read -/
def pl3 (s : PR) : Plc × PR := (((numR s).1, (textR 16 (numR (numR s).2).2).1), (textR 16 (numR (numR s).2).2).2)
def PlcOk (b : List UInt8) (block : Int) (x : Plc) (e : Int) : Prop := e = 0 ∧ 0 < x.1 ∧ plcS x block = b
instance (b : List UInt8) (block : Int) (x : Plc) (e : Int) : Decidable (PlcOk b block x e) := by unfold PlcOk; infer_instance
def plcOf (b : List UInt8) (block : Int) : Option Plc :=
  if b = zero64 then some plc0
  else if OpenOk b ∧ PlcOk b block (pl3 (b.take (b.length - 4), 0)).1 (pl3 (b.take (b.length - 4), 0)).2.2 then some (pl3 (b.take (b.length - 4), 0)).1 else none
/-- a volume: its journal, what is laid, its blocks -/
structure Vol where
  J : Jrn
  laid : List Plc
  blks : List Plc
def takeV (l : List Plc) (r : Rec) : List Plc :=
  if r.2.1 = 1 ∧ (l.getD r.2.2.1.toNat plc0).1 < r.1 then l.set r.2.2.1.toNat (r.1, r.2.2.2.1) else l
def takeAll (l : List Plc) (h : List Held) : List Plc := h.foldl (fun s x => takeV s x.2) l
/-- the places that a disk tells, from a block on -/
def plcsF (D : Dsk) (ring : Nat) : Nat → List Plc → Option (List Plc)
  | 0, l => some l
  | k + 1, l => match plcOf (D.cur (2 + ring + l.length)) l.length with
    | some x => plcsF D ring k (l ++ [x])
    | none => none
def plcsM (D : Dsk) (ring : Nat) : Option (List Plc) := plcsF D ring 8 []
end Go.Proofs.Yteednjcoapmkaaa
/- Contracts of functions of the given program, and plain laws on what they compute: parts of the proofs of laws. -/
namespace Go.Proofs.Yteednjcoapmkaaa
open Go Go.GL

/-! a volume that is opened: the plain model -/
def volTx : ByteArray := ⟨#[118, 111, 108, 117, 109, 101]⟩
def jrnTx : ByteArray := ⟨#[106, 111, 117, 114, 110, 97, 108]⟩
def openV (D : Dsk) (ring : Int) : Except (List (ByteArray × Int) × Int) (Vol × Dsk) :=
  if ring < 1 ∨ 512 < ring ∨ (D.S.length : Int) < 10 + ring then .error ([(volTx, ring)], 1)
  else match openM D ring with
    | .error c => .error ([(volTx, ring), (jrnTx, ring)], c)
    | .ok (J, D') => match plcsM D' ring.toNat with
      | none => .error ([(volTx, ring)], 4)
      | some l => .ok (⟨J, l, takeAll l J.held⟩, D')
theorem takeV_len (l : List Plc) (r : Rec) : (takeV l r).length = l.length := by unfold takeV; split <;> simp
theorem takeAll_len (h : List Held) : ∀ (l : List Plc), (takeAll l h).length = l.length := by
  induction h with
  | nil => intro l; rfl
  | cons x r ih => intro l; show (takeAll (takeV l x.2) r).length = _; rw [ih, takeV_len]
theorem takeAll_snoc (l : List Plc) (h : List Held) (x : Held) : takeAll l (h ++ [x]) = takeV (takeAll l h) x.2 := by
  unfold takeAll; rw [List.foldl_append]; rfl
theorem takeAll_app (l : List Plc) (h g : List Held) : takeAll l (h ++ g) = takeAll (takeAll l h) g := by
  unfold takeAll; rw [List.foldl_append]
theorem plcsF_len {D : Dsk} {ring : Nat} : ∀ {k : Nat} {l m : List Plc}, plcsF D ring k l = some m → m.length = l.length + k
  | 0, l, m, h => by cases h; rfl
  | k + 1, l, m, h => by
    rw [plcsF] at h
    split at h
    · have := plcsF_len h
      simp at this
      omega
    · cases h
theorem plcsM_len {D : Dsk} {ring : Nat} {m : List Plc} (h : plcsM D ring = some m) : m.length = 8 := by
  have := plcsF_len h
  simpa using this
theorem scanF_right (D : Dsk) (ring : Nat) (h : Hd) : ∀ (k : Nat) (l : List Held) (low : Int), (∀ x ∈ l, RightR x.2) → ∀ x ∈ scanF D ring h k l low, RightR x.2
  | 0, _, _, hl => hl
  | k + 1, l, low, hl => by
    rw [scanF]
    split
    · rename_i x hx
      refine scanF_right D ring h k _ _ (fun y hy => ?_)
      rcases List.mem_append.1 hy with hy | hy
      · exact hl y hy
      · rw [List.mem_singleton.1 hy]
        exact (decR_ok (g := x.1) (r := x.2) (fits_some hx).1).1
    · exact hl
theorem scanM_right (D : Dsk) (ring : Nat) (h : Hd) : ∀ x ∈ scanM D ring h, RightR x.2 := scanF_right D ring h _ _ _ (fun _ hx => by cases hx)
theorem right_block {r : Rec} (h : RightR r) : r.2.1 = 1 → 0 ≤ r.2.2.1 ∧ r.2.2.1 < 8 := fun e => by
  rcases h.2 with h | h
  · omega
  · exact h.2.1
end Go.Proofs.Yteednjcoapmkaaa
/- copy; function values, and calls of them. -/
namespace Go.GL
open Go
section
variable {G : Ctx} {N : Nat} {env : Env} {L : List Assn} {o : Oper} {post : Env → List Assn → Prop} {d : Nat}
theorem run_firstCellsK {P : Program} {w : World} {a : Option Addr} {n k size c : Nat} {cs : List Value} (h : readS a n size cs (hpOf w)) (hk : k ≤ n) : (Builtin.firstCells size k (.slice a n c)).run P w = .ok (cs.take (k * size)).toArray w := by
  have h2 := readS_take h hk
  obtain ⟨e, ⟨rfl, rfl⟩ | ⟨b, off, rfl, hc⟩⟩ := h2
  · have : cs.take (0 * size) = [] := by simp
    rw [this]
    simp only [Builtin.firstCells, Sem.run_pure]; try rfl
  · have := run_cells (P := P) hc (cs.take (k * size)).length 0 #[] (by omega)
    simp only [List.drop_zero, Array.empty_append] at this
    rw [e] at this
    simp only [Builtin.firstCells, loadCells, this]
/-- copy(x, y), x cells of a block -/
theorem OP.copyB {x y : Operand} {t t2 e : TypeId} {ti tsl : TI} {b off n cap m c2 sz : Nat} {a2 : Option Addr} {ds vs : List Value} {M : List Assn} (ho : o.op = .call ⟨.builtin .copy, #[x, y], #[t, t2]⟩)
    (hx : rd none env x = some (none, .slice (some ⟨b, off, none⟩) n cap)) (hy : rd none env y = some (none, .slice a2 m c2)) (ht : G.T.find t = some tsl) (htd : tsl.desc = .slice e) (hte : G.T.find e = some ti) (hsz : sizeL ti = some sz)
    (hr : Ent L (readS a2 m sz ds)) (hv : ds.take (min m n * sz) = vs) (hone : allOne vs = true) (hu : UpdM L b off vs M) (hd : o.dst = some d) (hN : Nat.blt d N = true) (h : post ((d, .val (.int .i64 (min m n : Nat))) :: env) M) : OP G N o env L post := .mk fun ac w ha hs => by
  have es := sizeL_eq hsz
  have hu1 : G.P.underlying t = some (.slice e) := htd ▸ (Tab.find_ok G.ok ht).desc
  have eE := Tab.find_ok G.ok hte
  obtain ⟨c, c', T, hc, hu⟩ := hu.upd
  obtain ⟨w', r, s⟩ := run_stores (P := G.P) vs off 0 c c' L M w (allOne_mem hone) hc hu hs
  have hf := run_firstCellsK (P := G.P) (c := c2) (hr _ hs) (show min m n ≤ m from Nat.min_le_left _ _)
  rw [hv] at hf
  unfold Oper.wp
  have : (execOp ac.eval o).run G.P w = .ok (.value (.int .i64 (min m n : Nat))) w' := by
    rw [execOp, ho]
    have hmin : Nat.min m n = min m n := rfl
    simp [resolve, invoke, builtin, rd_plain hx ha, rd_plain hy ha, Builtin.copy_, run_underlying hu1, Builtin.lenOf, run_size eE, es, hmin, hf, r, goInt]
  rw [this]
  simp only [Oper.upon, hd]
  exact ⟨_, _, ha.put hN _, s, h⟩
/-- a function value with what it has caught -/
theorem OP.makeF {f : FuncId} {xs : List Operand} {vs : List Value} (ho : o.op = .makeFunc (.func f) #[] xs.toArray) (hv : rdAll env xs = some vs) (hd : o.dst = some d) (hN : Nat.blt d N = true) (h : post ((d, .val (.func (.func f) #[] vs.toArray)) :: env) L) : OP G N o env L post :=
  .run (fun a w ha _ => by
    rw [execOp, ho]
    have := rdAll_ok ha hv
    simp [Instr.makeFunc, ← this]) hd hN h
theorem run_callV {P : Program} {f : FuncId} {x : Operand} {xs : List Operand} {ats : Array TypeId} {a : Act} {vs caps : List Value} (he : Enters P f) (hx : a.eval x = .func (.func f) #[] caps.toArray) (hv : xs.map a.eval = vs) (dst : Option Tmp) (ty : TypeId) (pos : String) (after : Array Edge) (guard : Option (Nat × Bool)) (w : World) :
    (execOp a.eval ⟨dst, .call ⟨.value x, xs.toArray, ats⟩, ty, pos, after, guard⟩).run P w = .ok (.enter f (vs ++ caps).toArray) w := by
  obtain ⟨fn, c, h1, h2, h3⟩ := he.ex
  simp only [execOp, resolve, hx, Deferred.ofValue, Sem.run_bind, Sem.run_pure, Result.andThen_ok, invoke, callFunc, run_program, h1]
  simp [h2, h3, ← hv]
/-- a call of a function value -/
theorem OP.callV {f : FuncId} {x : Operand} {xs : List Operand} {ats : Array TypeId} {vs caps : List Value} {pre F : List Assn} {p : Value → List Assn → Prop} (ho : o.op = .call ⟨.value x, xs.toArray, ats⟩) (hx : rd none env x = some (none, .func (.func f) #[] caps.toArray)) (hv : rdAll env xs = some vs)
    (ht : Triple G f (vs ++ caps) pre p) (hi : Imp L (pre ++ F)) (hd : o.dst = some d) (hN : Nat.blt d N = true) (h : ∀ v M, p v M → post ((d, .val v) :: env) (M ++ F)) : OP G N o env L post := .mk fun a w ha hs => by
  obtain ⟨dst, op, type, pos, after, guard⟩ := o
  simp only at ho hd
  subst ho hd
  unfold Oper.wp
  rw [run_callV ht.enters (rd_plain hx ha) (rdAll_ok ha hv)]
  simp only [Oper.upon]
  refine (ht.calls F w (hi.sat hs)).mono ?_
  rintro e w' ⟨v, M, rfl, hp, s⟩
  exact ⟨_, _, ha.put hN v, s, h v M hp⟩
theorem OP.callVRO {f : FuncId} {x : Operand} {xs : List Operand} {ats : Array TypeId} {vs caps : List Value} {R : Assn} {v : Value} (ho : o.op = .call ⟨.value x, xs.toArray, ats⟩) (hx : rd none env x = some (none, .func (.func f) #[] caps.toArray)) (hv : rdAll env xs = some vs)
    (ht : RO G f (vs ++ caps) R v) (he : Ent L R) (hd : o.dst = some d) (hN : Nat.blt d N = true) (h : post ((d, .val v) :: env) L) : OP G N o env L post :=
  .callV (F := []) ho hx hv (ht.triple he) (by rw [List.append_nil]; exact Imp.refl _) hd hN (fun v' M ⟨e1, e2⟩ => by rw [List.append_nil, e1, e2]; exact h)
end
/-- a slice's literal of one part that has several cells -/
theorem evLit1 {T : Tab} {env : Env} {e : Nat} {ti : TI} {y : Operand} {vs : List Value} (ht : T.find e = some ti) (hy : rd none env y = some (none, .agg vs.toArray)) (hl : vs.length = ti.size) (hz : ti.zero.length = ti.size) (h1 : Nat.ble ti.size 1000 = true) (h2 : Nat.ble 1 ti.size = true) : evSliceLit T env e 1 [(0, y)] = some vs := by
  unfold evSliceLit
  rw [ht]
  have hp : rdParts env [(0, y)] = some [(0, .agg vs.toArray)] := by simp only [rdParts, hy]
  rw [hp]
  simp only [Nat.one_mul, h1, h2]
  have hr : repL ti.zero 1 = ti.zero := by simp [repL]
  rw [hr]
  have hb : Nat.beq vs.length ti.size = true := by rw [hl]; exact Nat.beq_refl _
  have hs := setMany_all (old := ti.zero) (vs := vs) (by rw [hz, hl])
  show (match (match Nat.blt 0 1 with | true => some (0 * ti.size, ti.size) | false => none), cellsOf (.agg vs.toArray) with
    | some (off, size), some vs => (match Nat.beq vs.length size, setMany ti.zero off vs with
      | true, some c' => fillL _ c' []
      | _, _ => none)
    | _, _ => none) = some vs
  simp only [Nat.zero_mul, cellsOf, hb, hs, fillL, Nat.blt]
theorem retc2 {G : Ctx} {env : Env} {L : List Assn} {p : Value → List Assn → Prop} {t u ty b off : Nat} {ti : TI} {v : Value} {l : List Value} (h2 : Env.get env u = some (.val (.pointer (some ⟨b, off, none⟩)))) (h1 : Env.get env t = some (.val v)) (ht : G.T.find ty = some ti) (hg : ti.agg = true) (hl : l.length = ti.size) (hc : Ent L (cellsAt b off l)) (h : p (.tuple #[.agg l.toArray, v]) L) :
    retK G [.cell u ty, .tmp t] p .ret env L := ⟨[.agg l.toArray, v], ⟨b, off, _, [v], ti, rfl, h2, ht, .inr ⟨hg, l, rfl, hl, hc⟩, v, [], rfl, h1, rfl⟩, h⟩
/-- a body that has a label, to which nothing jumps -/
def scopeK (k : Kont) : Kont
  | .goto _, _, _ => False
  | e, env, L => k e env L
theorem WC.scope {G : Ctx} {N : Nat} {env : Env} {L : List Assn} {k : Kont} {c : Code} (h : WC G N c env L (scopeK k)) : WC G N (.scope c) env L k := .mk fun a w ha hs =>
  wp_scope_straight (Code.wp_mono (fun e a w ⟨env, L, x, s, z⟩ => by
    cases e with
    | goto l => exact z
    | _ => exact ⟨env, L, x, s, z⟩) (h.go a w ha hs))
theorem scopeK.normal {k : Kont} {env : Env} {L : List Assn} (h : k .normal env L) : scopeK k .normal env L := h
theorem scopeK.exit {k : Kont} {env : Env} {L : List Assn} {i : Nat} (h : k (.exit i) env L) : scopeK k (.exit i) env L := h
theorem scopeK.ret {k : Kont} {env : Env} {L : List Assn} (h : k .ret env L) : scopeK k .ret env L := h
end Go.GL
/- Contracts of functions of the given program, and plain laws on what they compute: parts of the proofs of laws. -/

namespace Go.Proofs.Yteednjcoapmkaaa
open Go Go.GL

/-- an error: its faults' blocks, places and numbers, the outermost one first; the number that it comes from -/
abbrev Chain := List (Nat × ByteArray × Int)
def valOf : Chain → Int → Value
  | [], c => .iface 67 (.int .i64 c)
  | x :: _, _ => .iface 102 (.pointer (some ⟨x.1, 0, none⟩))
def chainR : Chain → Int → Assn
  | [], _ => fun _ => True
  | x :: r, c => fun h => cellsAt x.1 0 [.string x.2.1, .int .i64 x.2.2, valOf r c] h ∧ chainR r c h
theorem up_chainR : ∀ (ch : Chain) (c : Int), Up (chainR ch c)
  | [], _ => fun _ _ _ h => h
  | _ :: r, c => up_and (up_cellsAt _ _ _) (up_chainR r c)
/-- what an error is: none; or faults and a number -/
abbrev Er := Option (List (ByteArray × Int) × Int)
def IsEr (e : Er) (v : Value) (E : List Assn) : Prop := match e with
  | none => v = .nilIface ∧ E = []
  | some (l, c) => ∃ ch : Chain, ch.map Prod.snd = l ∧ v = valOf ch c ∧ E = [chainR ch c]
def wrapE (op : ByteArray) (at_ : Int) : Er → Er
  | none => none
  | some (l, c) => some ((op, at_) :: l, c)
theorem Imp.chain {ch : Chain} {c : Int} {b : Nat} {op : ByteArray} {at_ : Int} {L : List Assn} : Imp (blk b [.string op, .int .i64 at_, valOf ch c] 104 :: chainR ch c :: L) (chainR ((b, op, at_) :: ch) c :: L) := by
  rintro h ⟨h1, h2, d, e, ⟨fr, hb, hf⟩, h3, h4, d', e', hc, rest⟩
  subst e'
  have d13 : Hp.disj h1 h3 := Hp.disj_mono d (Hp.le_refl _) (Hp.le_join_left _ _)
  have d14 : Hp.disj h1 h4 := Hp.disj_mono d (Hp.le_refl _) (Hp.le_join_right d')
  refine ⟨Hp.join h1 h3, h4, Hp.disj_join d14 d', by rw [e, Hp.join_assoc], ⟨?_, up_chainR ch c _ _ (Hp.le_join_right d13) hc⟩, rest⟩
  exact up_cellsAt _ _ _ _ _ (Hp.le_join_left _ _) ⟨_, _, fr, hb, fun i v hi => by simpa using hi⟩
set_option maxRecDepth 10000 in
theorem wrapC_ok (op : ByteArray) (at_ : Int) (ch : Chain) (c : Int) (h : ¬ (ch = [] ∧ c = 0)) : Triple G 34 [.string op, .int .i64 at_, valOf ch c] [chainR ch c] (IsEr (some ((op, at_) :: ch.map Prod.snd, c))) := by
  refine Triple.enter Try.func34 rfl (by decide) rfl Try.ntmps34 rfl (fun F => ?_)
  cases ch with
  | nil =>
    have hc : ¬ c = 0 := fun e => h ⟨rfl, e⟩
    repeat (first | refine GD ?_ | refine NW fun _ => ?_)
    exact ret1 rfl ⟨_, ⟨(_, op, at_) :: [], rfl, rfl, rfl⟩, Imp.chain (ch := [])⟩
  | cons x r =>
    repeat (first | refine GD ?_ | refine NW fun _ => ?_)
    exact ret1 rfl ⟨_, ⟨(_, op, at_) :: x :: r, rfl, rfl, rfl⟩, Imp.chain (ch := x :: r)⟩
set_option maxRecDepth 10000 in
theorem wrap_nil (op : ByteArray) (at_ : Int) : RO G 34 [.string op, .int .i64 at_, .nilIface] (fun _ => True) .nilIface := by
  refine RO.enter Try.func34 rfl (by decide) rfl Try.ntmps34 rfl (fun A hu hA => ?_) (fun _ _ _ h => h)
  repeat (first | refine GD ?_ | refine NW fun _ => ?_)
  exact ret1 rfl ⟨rfl, MM⟩
theorem Imp.chain1 {c : Int} {b : Nat} {op : ByteArray} {at_ : Int} {L : List Assn} : Imp (blk b [.string op, .int .i64 at_, .iface 67 (.int .i64 c)] 104 :: L) (chainR [(b, op, at_)] c :: L) :=
  fun _ s => stars_head_mono (fun _ ⟨fr, hb, _⟩ => ⟨⟨_, _, fr, hb, fun i v hi => by
    have hi' : ([.string op, .int .i64 at_, .iface 67 (.int .i64 c)] : List Value)[i]? = some v := hi
    simpa using hi'⟩, trivial⟩) s
theorem Fault.isEr {op : ByteArray} {at_ c : Int} {v : Value} {M : List Assn} (h : Fault op at_ c v M) : ∃ M', IsEr (some ([(op, at_)], c)) v M' ∧ Imp M M' := by
  obtain ⟨b, rfl, rfl⟩ := h
  exact ⟨_, ⟨[(b, op, at_)], rfl, rfl, rfl⟩, Imp.chain1⟩
end Go.Proofs.Yteednjcoapmkaaa
