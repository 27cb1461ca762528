/- Contracts of functions of the given program, and plain laws: parts of the proofs of laws. -/
import Derived.Test.YteednjcoapmkaaaZVol7
import Derived.Test.YteednjcoapmkaaaZVol9
/- Contracts of functions of the given program, and plain laws on what they compute: parts of the proofs of laws. -/

namespace Go.Proofs.Yteednjcoapmkaaa
open Go Go.GL

def numF : Except Int (Nat × List UInt8) → Int × PR
  | .ok (n, t) => ((n : Int), (t, 0))
  | .error e => (0, ([], e))
theorem numR_zero (l : List UInt8) : numR (l, 0) = numF (rdN 0 0 l) := by
  unfold numR numF
  cases rdN 0 0 l <;> rfl
theorem numR_err {s : PR} (h : s.2 ≠ 0) : numR s = (0, s) := by unfold numR; rw [if_pos h]
set_option maxHeartbeats 4000000 in
set_option maxRecDepth 10000 in
theorem numR_ok (r : Nat) (v : Value) (s : PR) (A : Assn) (hu : Up A) (hv : Bytes A s.1 v) (hl : s.1.length < 1000000) :
    Triple G 70 [.pointer (some ⟨r, 0, none⟩)] [blk r [v, .int .i64 s.2] 133, A] (RdPost r A (.int .i64 (numR s).1) (numR s).2) := by
  refine Triple.enter Try.func70 rfl (by decide) rfl Try.ntmps70 rfl (fun F => ?_)
  obtain ⟨l, e⟩ := s
  dsimp only at hv hl ⊢
  repeat (first | refine GO ?_ | refine NW fun _ => ?_)
  refine WL.step rfl (OP.callRO rfl rfl (err_ro r v e) (Ent.whole (T := 133) MM) rfl rfl ?_)
  by_cases he : e = 0
  rotate_left
  · rw [numR_err he]
    repeat (first | refine GD ?_ | refine NW fun _ => ?_)
    exact ret1 rfl ⟨_, ⟨rfl, v, hv, rfl⟩, Imp.refl _⟩
  subst he
  rw [numR_zero]
  obtain ⟨a, n, c, rfl, hn, hc, hr⟩ := hv
  have hE : ∀ {L}, A ∈ L → Ent L (readS a n 1 (l.map byteV)) := fun m => Ent.mem m hu hr
  generalize hF : rdN 0 0 l = R
  repeat (first | refine GD ?_ | refine NW fun _ => ?_)
  refine WC.loop (σ := Nat × Nat) (fun s => s.1 ≤ 8 ∧ s.1 ≤ n ∧ s.2 < 128 ^ s.1 ∧ rdN s.1 s.2 (l.drop s.1) = R)
    (fun s => [(0, .val (.pointer (some ⟨r, 0, none⟩))), (3, .val (.int .i64 s.2)), (12, .val (.slice a n c)), (13, .val (.int .i64 n)), (14, .val (.int .i64 s.1))])
    (fun _ => [blk r [.slice a n c, .int .i64 0] 133, A, F]) (fun s => n - s.1) (0, 0) ⟨by simp, by simp, by simp, hF⟩ ⟨rfl, rfl, rfl, rfl, rfl, trivial⟩ II ?_
  rintro ⟨i, m⟩ ⟨hi8, hin, hm, hR⟩
  dsimp only at hi8 hin hm hR ⊢
  by_cases hlt : i < n
  rotate_left
  · rw [List.drop_eq_nil_of_le (by omega)] at hR
    subst hR
    repeat (first | refine GD ?_ | refine NW fun _ => ?_)
    refine WL.step rfl (OP.call (pre := [blk r [.slice a n c, .int .i64 0] 133, A]) rfl rfl (wrong5_ok r A _ 0 2) PS rfl rfl ?_)
    rintro _ _ ⟨rfl, v', hv', rfl⟩
    repeat (first | refine GD ?_ | refine NW fun _ => ?_)
    exact ret1 rfl ⟨_, ⟨rfl, v', hv', rfl⟩, Imp.refl _⟩
  have hl1 : i < l.length := by omega
  rw [List.drop_eq_getElem_cons hl1, rdN_cons] at hR
  repeat (first | refine GD ?_ | refine NW fun _ => ?_)
  refine WL.fact (Ent.some (hE MM) (by omega)) ?_
  rintro ⟨b, off, rfl⟩
  repeat (first | refine GD ?_ | refine NW fun _ => ?_)
  refine WL.step rfl (OP.load1 (v := byteV l[i]) rfl rfl rfl rfl (Ent.elem (i := i * 1) (hE MM) rfl (by simp [hl1])) rfl rfl ?_)
  generalize l[i] = x at *
  have hx8 : x.toNat < 256 := x.toNat_lt
  unfold byteV
  have hx128 : x.toNat % 128 < 128 := by omega
  have hbits : bitsV .or .i64 (m : Int) (shlV .i64 (IntKind.i64.wrap (bitsV .andNot .u8 (x.toNat : Int) 128)) (7 * (i : Int))) = ((m + x.toNat % 128 * 128 ^ i : Nat) : Int) := by
    rw [andnot_byte, wrap_fit (k := .i64) (show Fit .i64 _ by unfold Fit; omega), shl_num _ _ hx128 hi8, or_num _ _ _ hm hx128 hi8]
  have hm2 : m + x.toNat % 128 * 128 ^ i < 128 ^ (i + 1) := by
    have h1 : x.toNat % 128 * 128 ^ i ≤ 127 * 128 ^ i := Nat.mul_le_mul_right _ (by omega)
    rw [Nat.pow_succ]
    omega
  have hp8 := pow128 i hi8
  have h127 : x.toNat % 128 * 128 ^ i ≤ 127 * 128 ^ 8 := Nat.mul_le_mul (by omega) hp8
  generalize hmm : m + x.toNat % 128 * 128 ^ i = m2 at *
  by_cases h8 : i = 8
  · by_cases hc1 : 128 ≤ x.toNat
    · rw [if_pos (by omega)] at hR
      repeat (first | refine GD ?_ | refine NW fun _ => ?_)
      refine WL.step rfl (OP.call (pre := [blk r [.slice (some ⟨b, off, none⟩) n c, .int .i64 0] 133, A]) rfl rfl (wrong5_ok r A _ 0 1) PS rfl rfl ?_)
      rintro _ _ ⟨rfl, v', hv', rfl⟩
      repeat (first | refine GD ?_ | refine NW fun _ => ?_)
      subst hR
      exact ret1 rfl ⟨_, ⟨rfl, v', hv', rfl⟩, Imp.refl _⟩
    · by_cases hw : widest < (m2 : Int)
      · rw [if_pos (by omega)] at hR
        repeat (first | refine GD ?_ | refine NW fun _ => ?_)
        rw [hbits, decide_eq_true (show (1152921504606846975 : Int) < (m2 : Int) from hw)]
        repeat (first | refine GD ?_ | refine NW fun _ => ?_)
        refine WL.step rfl (OP.call (pre := [blk r [.slice (some ⟨b, off, none⟩) n c, .int .i64 0] 133, A]) rfl rfl (wrong5_ok r A _ 0 1) PS rfl rfl ?_)
        rintro _ _ ⟨rfl, v', hv', rfl⟩
        repeat (first | refine GD ?_ | refine NW fun _ => ?_)
        subst hR
        exact ret1 rfl ⟨_, ⟨rfl, v', hv', rfl⟩, Imp.refl _⟩
      · by_cases hz : x.toNat = 0
        · rw [if_pos (by omega)] at hR
          repeat (first | refine GD ?_ | refine NW fun _ => ?_)
          rw [hbits, decide_eq_false (show ¬ (1152921504606846975 : Int) < (m2 : Int) from hw)]
          repeat (first | refine GD ?_ | refine NW fun _ => ?_)
          refine WL.step rfl (OP.call (pre := [blk r [.slice (some ⟨b, off, none⟩) n c, .int .i64 0] 133, A]) rfl rfl (wrong5_ok r A _ 0 1) PS rfl rfl ?_)
          rintro _ _ ⟨rfl, v', hv', rfl⟩
          repeat (first | refine GD ?_ | refine NW fun _ => ?_)
          subst hR
          exact ret1 rfl ⟨_, ⟨rfl, v', hv', rfl⟩, Imp.refl _⟩
        · rw [if_neg (by omega), if_pos (by omega)] at hR
          have hlt8 : x.toNat < 128 := by omega
          repeat (first | refine GD ?_ | refine NW fun _ => ?_)
          rw [hbits, decide_eq_false (show ¬ (1152921504606846975 : Int) < (m2 : Int) from hw)]
          repeat (first | refine GD ?_ | refine NW fun _ => ?_)
          subst hR
          refine ret1 rfl ⟨_, ⟨rfl, _, ⟨_, _, _, rfl, ?_, ?_, ?_⟩, rfl⟩, Imp.refl _⟩
          · dsimp only [numF]; rw [List.length_drop]; omega
          · omega
          · intro h hh
            have := readS_cut (i := i + 1) (hr h hh) (by omega) hc
            rw [Nat.mul_one, ← List.map_drop] at this
            exact this
  · by_cases hi0 : 0 < i
    · by_cases hz : x.toNat = 0
      · rw [if_pos (by omega)] at hR
        repeat (first | refine GD ?_ | refine NW fun _ => ?_)
        refine WL.step rfl (OP.call (pre := [blk r [.slice (some ⟨b, off, none⟩) n c, .int .i64 0] 133, A]) rfl rfl (wrong5_ok r A _ 0 1) PS rfl rfl ?_)
        rintro _ _ ⟨rfl, v', hv', rfl⟩
        repeat (first | refine GD ?_ | refine NW fun _ => ?_)
        subst hR
        exact ret1 rfl ⟨_, ⟨rfl, v', hv', rfl⟩, Imp.refl _⟩
      · by_cases hc1 : x.toNat < 128
        · rw [if_neg (by omega), if_pos (by omega)] at hR
          repeat (first | refine GD ?_ | refine NW fun _ => ?_)
          rw [hbits]
          subst hR
          refine ret1 rfl ⟨_, ⟨rfl, _, ⟨_, _, _, rfl, ?_, ?_, ?_⟩, rfl⟩, Imp.refl _⟩
          · dsimp only [numF]; rw [List.length_drop]; omega
          · omega
          · intro h hh
            have := readS_cut (i := i + 1) (hr h hh) (by omega) hc
            rw [Nat.mul_one, ← List.map_drop] at this
            exact this
        · rw [if_neg (by omega), if_neg (by omega)] at hR
          repeat (first | refine GD ?_ | refine NW fun _ => ?_)
          rw [hbits]
          exact ⟨(i + 1, m2), ⟨by dsimp only; omega, by dsimp only; omega, hm2, hR⟩, by dsimp only; omega, ⟨rfl, rfl, rfl, rfl, rfl, trivial⟩, Imp.refl _⟩
    · by_cases hc1 : x.toNat < 128
      · rw [if_neg (by omega), if_pos (by omega)] at hR
        repeat (first | refine GD ?_ | refine NW fun _ => ?_)
        rw [hbits]
        subst hR
        refine ret1 rfl ⟨_, ⟨rfl, _, ⟨_, _, _, rfl, ?_, ?_, ?_⟩, rfl⟩, Imp.refl _⟩
        · dsimp only [numF]; rw [List.length_drop]; omega
        · omega
        · intro h hh
          have := readS_cut (i := i + 1) (hr h hh) (by omega) hc
          rw [Nat.mul_one, ← List.map_drop] at this
          exact this
      · rw [if_neg (by omega), if_neg (by omega)] at hR
        repeat (first | refine GD ?_ | refine NW fun _ => ?_)
        rw [hbits]
        exact ⟨(i + 1, m2), ⟨by dsimp only; omega, by dsimp only; omega, hm2, hR⟩, by dsimp only; omega, ⟨rfl, rfl, rfl, rfl, rfl, trivial⟩, Imp.refl _⟩
end Go.Proofs.Yteednjcoapmkaaa
/- Contracts of functions of the given program, and plain laws on what they compute: parts of the proofs of laws. -/
namespace Go.Proofs.Yteednjcoapmkaaa
open Go Go.GL

theorem rdN_rest : ∀ (l : List UInt8) (i n : Nat) (m : Nat) (t : List UInt8), rdN i n l = .ok (m, t) → t.length ≤ l.length ∧ (i ≤ 8 → n < 128 ^ i → (m : Int) < 128 ^ 9)
  | [], i, n, m, t, h => by cases h
  | c :: r, i, n, m, t, h => by
    have hc8 : c.toNat < 256 := c.toNat_lt
    have h1 : c.toNat % 128 * 128 ^ i ≤ 127 * 128 ^ i := Nat.mul_le_mul_right _ (by omega)
    rw [rdN_cons] at h
    split at h
    · cases h
    · rename_i hC
      split at h
      · cases h
        refine ⟨by simp, fun hi hn => ?_⟩
        have := pow128 i hi
        omega
      · have ih := rdN_rest r (i + 1) _ m t h
        refine ⟨by simp only [List.length_cons]; omega, fun hi hn => ih.2 (by omega) (by rw [Nat.pow_succ]; omega)⟩
theorem numR_bd (s : PR) : (numR s).2.1.length ≤ s.1.length ∧ 0 ≤ (numR s).1 ∧ (numR s).1 < 128 ^ 9 := by
  by_cases he : s.2 = 0
  · obtain ⟨l, e⟩ := s
    obtain rfl : e = 0 := he
    rw [numR_zero]
    cases h : rdN 0 0 l with
    | ok x => obtain ⟨m, t⟩ := x; have := rdN_rest l 0 0 m t h; exact ⟨this.1, by simp [numF], this.2 (by omega) (by simp)⟩
    | error e => simp [numF]
  · rw [numR_err he]; exact ⟨Nat.le_refl _, Int.le_refl _, (by decide : (0 : Int) < 128 ^ 9)⟩
theorem rdN_numB : ∀ (k n i acc : Nat) (rest : List UInt8), n ≤ k → i ≤ 8 → ((acc + n * 128 ^ i : Nat) : Int) ≤ widest → (0 < i → n ≠ 0) → rdN i acc (numB n ++ rest) = .ok (acc + n * 128 ^ i, rest) := by
  intro k
  induction k with
  | zero =>
    intro n i acc rest hk hi hw hz
    obtain rfl : n = 0 := by omega
    rw [numB_lt (by omega), List.singleton_append, rdN_cons, ofNat_toNat (by omega)]
    rw [if_neg (by omega), if_pos (by omega)]
  | succ k ih =>
    intro n i acc rest hk hi hw hz
    by_cases hn : n < 128
    · rw [numB_lt hn, List.singleton_append, rdN_cons, ofNat_toNat (by omega), Nat.mod_eq_of_lt hn]
      rw [if_neg (by omega), if_pos hn]
    · have hp : 0 < 128 ^ i := Nat.pow_pos (by omega)
      have hsplit : n * 128 ^ i = n % 128 * 128 ^ i + n / 128 * 128 ^ (i + 1) := by
        have h1 : n = n % 128 + n / 128 * 128 := by omega
        conv => lhs; rw [h1]
        rw [Nat.add_mul, Nat.pow_succ, Nat.mul_assoc (n / 128), Nat.mul_comm 128]
      have hi8 : i ≠ 8 := by
        intro e
        subst e
        have : 128 * 128 ^ 8 ≤ n * 128 ^ 8 := Nat.mul_le_mul_right _ (by omega)
        unfold widest at hw
        omega
      rw [numB_ge hn, List.cons_append, rdN_cons, ofNat_toNat (by omega), show (n % 128 + 128) % 128 = n % 128 by omega]
      rw [if_neg (by omega), if_neg (by omega), ih (n / 128) (i + 1) _ rest (by omega) (by omega) (by rw [hsplit] at hw; omega) (by omega), hsplit, Nat.add_assoc]
theorem numR_numB {x : Int} (hx : 0 ≤ x ∧ x ≤ widest) (rest : List UInt8) : numR (numB (clampN x) ++ rest, 0) = (x, (rest, 0)) := by
  have hc : (clampN x : Int) = x := by unfold clampN; omega
  rw [numR_zero, rdN_numB _ _ 0 0 rest (Nat.le_refl _) (by omega) (by rw [Nat.pow_zero, Nat.mul_one, Nat.zero_add, hc]; exact hx.2) (by omega)]
  simp only [numF, Nat.pow_zero, Nat.mul_one, Nat.zero_add, hc]
theorem rdN_wide : ∀ (l : List UInt8) (i n : Nat) {m : Nat} {t : List UInt8}, i ≤ 8 → n < 128 ^ i → rdN i n l = .ok (m, t) → (m : Int) ≤ widest
  | [], _, _, _, _, _, _, h => by cases h
  | c :: l, i, n, m, t, hi, hn, h => by
    rw [rdN_cons] at h
    split at h
    · cases h
    · rename_i hc
      have h127 : c.toNat % 128 * 128 ^ i ≤ 127 * 128 ^ i := Nat.mul_le_mul_right _ (by omega)
      have hlt : n + c.toNat % 128 * 128 ^ i < 128 ^ (i + 1) := by rw [Nat.pow_succ]; omega
      split at h
      · cases h
        by_cases h8 : i = 8
        · have : ¬ widest < ((n + c.toNat % 128 * 128 ^ i : Nat) : Int) := fun h => hc (.inl ⟨h8, .inr h⟩)
          omega
        · have : (128 : Nat) ^ (i + 1) ≤ 128 ^ 8 := Nat.pow_le_pow_right (by decide) (by omega)
          unfold widest
          omega
      · rename_i hc2
        have : ¬ i = 8 := fun h8 => hc (.inl ⟨h8, .inl (by omega)⟩)
        exact rdN_wide l (i + 1) _ (by omega) hlt h
theorem numR_wide (s : PR) : 0 ≤ (numR s).1 ∧ (numR s).1 ≤ widest := by
  refine ⟨(numR_bd s).2.1, ?_⟩
  by_cases he : s.2 = 0
  · obtain ⟨l, e⟩ := s
    obtain rfl : e = 0 := he
    rw [numR_zero]
    cases h : rdN 0 0 l with
    | ok x => obtain ⟨m, t⟩ := x; exact rdN_wide l 0 0 (by omega) (by simp) h
    | error e => simp [numF, widest]
  · rw [numR_err he]; simp [widest]
theorem rdN_inv : ∀ (l : List UInt8) (i n : Nat) {m : Nat} {t : List UInt8}, rdN i n l = .ok (m, t) → ∃ d, m = n + d * 128 ^ i ∧ l = numB d ++ t ∧ (0 < i → d ≠ 0)
  | [], _, _, _, _, h => by cases h
  | c :: l, i, n, m, t, h => by
    have hc8 : c.toNat < 256 := c.toNat_lt
    rw [rdN_cons] at h
    split at h
    · cases h
    · rename_i hc
      split at h
      · rename_i h128
        cases h
        refine ⟨c.toNat, by rw [Nat.mod_eq_of_lt h128], ?_, fun hi h0 => hc (.inr ⟨hi, h0⟩)⟩
        rw [numB_lt h128]
        simp
      · rename_i h128
        obtain ⟨d, e1, e2, e3⟩ := rdN_inv l (i + 1) _ h
        have hd := e3 (by omega)
        refine ⟨c.toNat % 128 + 128 * d, ?_, ?_, fun _ => by omega⟩
        · rw [e1, Nat.pow_succ, Nat.add_mul, Nat.add_assoc, Nat.mul_comm 128 d, Nat.mul_assoc, Nat.mul_comm 128 (128 ^ i)]
        · rw [numB_ge (by omega), e2]
          have h1 : (c.toNat % 128 + 128 * d) % 128 + 128 = c.toNat := by omega
          have h2 : (c.toNat % 128 + 128 * d) / 128 = d := by omega
          rw [h1, h2]
          simp
theorem rdN_err : ∀ (l : List UInt8) (i n : Nat) {e : Int}, rdN i n l = .error e → e ≠ 0
  | [], _, _, _, h => by cases h; decide
  | c :: l, i, n, e, h => by
    rw [rdN_cons] at h
    split at h
    · cases h; decide
    · split at h
      · cases h
      · exact rdN_err l _ _ h
/-- what was read without a fault stood there -/
theorem numR_inv {s : PR} (h : (numR s).2.2 = 0) : s.2 = 0 ∧ s.1 = numB (clampN (numR s).1) ++ (numR s).2.1 ∧ 0 ≤ (numR s).1 ∧ (numR s).1 ≤ widest := by
  obtain ⟨l, e⟩ := s
  by_cases he : e = 0
  · subst he
    rw [numR_zero] at h ⊢
    cases hr : rdN 0 0 l with
    | ok x =>
      obtain ⟨m, t⟩ := x
      obtain ⟨d, e1, e2, _⟩ := rdN_inv l 0 0 hr
      have hw := rdN_wide l 0 0 (by decide) (by decide) hr
      have hd : d = m := by simp at e1; omega
      subst hd
      refine ⟨rfl, ?_, by simp [numF], by simpa [numF] using hw⟩
      dsimp only [numF]
      rw [clamp_nat _ hw, e2]
    | error e =>
      rw [hr] at h
      exact absurd h (rdN_err l 0 0 hr)
  · rw [numR_err he] at h
    exact absurd h he
set_option maxRecDepth 10000 in
theorem read0_ok (a : Option Addr) (n c : Nat) : RT G 69 [.slice a n c] (fun _ => True) (fun x E => ∃ r, x = .pointer (some ⟨r, 0, none⟩) ∧ E = [blk r [.slice a n c, .int .i64 0] 133]) := by
  refine RT.enter Try.func69 rfl (by decide) rfl Try.ntmps69 rfl (fun A _ hA => ?_)
  repeat (first | refine GO ?_ | refine NW fun _ => ?_)
  exact ret1 rfl ⟨[_], ⟨_, rfl, rfl⟩, Imp.refl _⟩
end Go.Proofs.Yteednjcoapmkaaa
/- Contracts of functions of the given program, and plain laws on what they compute: parts of the proofs of laws. -/

namespace Go.Proofs.Yteednjcoapmkaaa
open Go Go.GL

def textR (most : Int) (s : PR) : ByteArray × PR :=
  if (numR s).2.2 ≠ 0 then (⟨#[]⟩, (numR s).2)
  else if most < (numR s).1 then (⟨#[]⟩, ([], 1))
  else if ((numR s).2.1.length : Int) < (numR s).1 then (⟨#[]⟩, ([], 2))
  else (ba ((numR s).2.1.take (numR s).1.toNat), ((numR s).2.1.drop (numR s).1.toNat, (numR s).2.2))
set_option maxHeartbeats 1000000 in
set_option maxRecDepth 10000 in
theorem textR_ok (r : Nat) (v : Value) (s : PR) (A : Assn) (hu : Up A) (hv : Bytes A s.1 v) (hl : s.1.length < 1000000) (most : Int) :
    Triple G 71 [.pointer (some ⟨r, 0, none⟩), .int .i64 most] [blk r [v, .int .i64 s.2] 133, A] (RdPost r A (.string (textR most s).1) (textR most s).2) := by
  refine Triple.enter Try.func71 rfl (by decide) rfl Try.ntmps71 rfl (fun F => ?_)
  repeat (first | refine GO ?_ | refine NW fun _ => ?_)
  refine WL.step rfl (OP.call (pre := [blk r [v, .int .i64 s.2] 133, A]) rfl rfl (numR_ok r v s A hu hv hl) PS rfl rfl ?_)
  rintro _ _ ⟨rfl, v', hv', rfl⟩
  have hbd := numR_bd s
  unfold textR
  generalize numR s = y at *
  obtain ⟨x, l, e⟩ := y
  dsimp only at hbd hv' ⊢
  repeat (first | refine GD ?_ | refine NW fun _ => ?_)
  refine WL.step rfl (OP.callRO rfl rfl (err_ro r v' e) (Ent.whole (T := 133) MM) rfl rfl ?_)
  by_cases he : e = 0
  rotate_left
  · rw [if_pos he]
    repeat (first | refine GD ?_ | refine NW fun _ => ?_)
    exact ret1 rfl ⟨_, ⟨rfl, v', hv', rfl⟩, Imp.refl _⟩
  subst he
  rw [if_neg (by simp)]
  by_cases h1 : most < x
  · rw [if_pos h1]
    repeat (first | refine GD ?_ | refine NW fun _ => ?_)
    refine WL.step rfl (OP.call (pre := [blk r [v', .int .i64 0] 133, A]) rfl rfl (wrong5_ok r A _ 0 1) PS rfl rfl ?_)
    rintro _ _ ⟨rfl, v2, hv2, rfl⟩
    repeat (first | refine GD ?_ | refine NW fun _ => ?_)
    exact ret1 rfl ⟨_, ⟨rfl, v2, hv2, rfl⟩, Imp.refl _⟩
  rw [if_neg h1]
  obtain ⟨a, n, c, rfl, hn, hc, hr⟩ := hv'
  by_cases h2 : (l.length : Int) < x
  · rw [if_pos h2]
    repeat (first | refine GD ?_ | refine NW fun _ => ?_)
    refine WL.step rfl (OP.call (pre := [blk r [.slice a n c, .int .i64 0] 133, A]) rfl rfl (wrong5_ok r A _ 0 2) PS rfl rfl ?_)
    rintro _ _ ⟨rfl, v2, hv2, rfl⟩
    repeat (first | refine GD ?_ | refine NW fun _ => ?_)
    exact ret1 rfl ⟨_, ⟨rfl, v2, hv2, rfl⟩, Imp.refl _⟩
  rw [if_neg h2]
  repeat (first | refine GD ?_ | refine NW fun _ => ?_)
  refine WL.step rfl (OP.toStr (sv := ba (l.take x.toNat)) rfl rfl rfl rfl rfl rfl rfl rfl (by rw [strCells_ba, List.map_take]; exact Ent.mem MM hu (fun h hh => by have := readS_take (m := x.toNat) (hr h hh) (by omega); rwa [Nat.mul_one] at this)) rfl rfl ?_)
  repeat (first | refine GD ?_ | refine NW fun _ => ?_)
  refine ret1 rfl ⟨_, ⟨rfl, _, ⟨_, _, _, rfl, ?_, ?_, ?_⟩, rfl⟩, Imp.refl _⟩
  · rw [List.length_drop]; omega
  · omega
  · intro h hh
    have := readS_cut (i := x.toNat) (hr h hh) (by omega) hc
    rw [Nat.mul_one, ← List.map_drop] at this
    exact this
theorem textR_len (most : Int) (s : PR) : (textR most s).2.1.length ≤ s.1.length := by
  have := numR_bd s
  unfold textR
  split
  · exact this.1
  · split
    · simp
    · split
      · simp
      · simp only [List.length_drop]; omega
def readM (s : PR) : (Int × Rec) × PR :=
  if (numR (numR (numR s).2).2).1 = 1 then
    (((numR s).1, ((numR (numR s).2).1, (numR (numR (numR s).2).2).1, (numR (numR (numR (numR s).2).2).2).1, (textR 16 (numR (numR (numR (numR s).2).2).2).2).1, 0)), (textR 16 (numR (numR (numR (numR s).2).2).2).2).2)
  else (((numR s).1, ((numR (numR s).2).1, (numR (numR (numR s).2).2).1, 0, ⟨#[]⟩, (numR (numR (numR (numR s).2).2).2).1)), (numR (numR (numR (numR s).2).2).2).2)
set_option maxHeartbeats 1000000 in
set_option maxRecDepth 10000 in
theorem read5_ok (r : Nat) (v : Value) (s : PR) (A : Assn) (hu : Up A) (hv : Bytes A s.1 v) (hl : s.1.length < 1000000) :
    Triple G 74 [.pointer (some ⟨r, 0, none⟩)] [blk r [v, .int .i64 s.2] 133, A] (RdPost r A (.tuple #[.int .i64 (readM s).1.1, .agg (encR (readM s).1.2).toArray]) (readM s).2) := by
  refine Triple.enter Try.func74 rfl (by decide) rfl Try.ntmps74 rfl (fun F => ?_)
  have b1 := numR_bd s
  have b2 := numR_bd (numR s).2
  have b3 := numR_bd (numR (numR s).2).2
  have b4 := numR_bd (numR (numR (numR s).2).2).2
  unfold readM
  repeat (first | refine GO ?_ | refine NW fun _ => ?_)
  refine WL.step rfl (OP.call (pre := [blk r [v, .int .i64 s.2] 133, A]) rfl rfl (numR_ok r v s A hu hv hl) PS rfl rfl ?_)
  rintro _ _ ⟨rfl, v1, hv1, rfl⟩
  repeat (first | refine GO ?_ | refine NW fun _ => ?_)
  refine WL.step rfl (OP.call (pre := [blk r [v1, .int .i64 _] 133, A]) rfl rfl (numR_ok r v1 (numR s).2 A hu hv1 (by omega)) PS rfl rfl ?_)
  rintro _ _ ⟨rfl, v2, hv2, rfl⟩
  repeat (first | refine GO ?_ | refine NW fun _ => ?_)
  refine WL.step rfl (OP.call (pre := [blk r [v2, .int .i64 _] 133, A]) rfl rfl (numR_ok r v2 (numR (numR s).2).2 A hu hv2 (by omega)) PS rfl rfl ?_)
  rintro _ _ ⟨rfl, v3, hv3, rfl⟩
  generalize numR s = y1 at *
  generalize numR y1.2 = y2 at *
  generalize numR y2.2 = y3 at *
  by_cases hk : y3.1 = 1
  · rw [if_pos hk]
    repeat (first | refine GD ?_ | refine NW fun _ => ?_)
    refine WL.step rfl (OP.call (pre := [blk r [v3, .int .i64 _] 133, A]) rfl rfl (numR_ok r v3 y3.2 A hu hv3 (by omega)) PS rfl rfl ?_)
    rintro _ _ ⟨rfl, v4, hv4, rfl⟩
    generalize numR y3.2 = y4 at *
    repeat (first | refine GD ?_ | refine NW fun _ => ?_)
    refine WL.step rfl (OP.call (pre := [blk r [v4, .int .i64 _] 133, A]) rfl rfl (textR_ok r v4 y4.2 A hu hv4 (by omega) 16) PS rfl rfl ?_)
    rintro _ _ ⟨rfl, v5, hv5, rfl⟩
    generalize textR 16 y4.2 = y5 at *
    repeat (first | refine GD ?_ | refine NW fun _ => ?_)
    refine RD 3 4 (_) ?_
    refine VV 0 ?_; refine VV 1 ?_; refine VV 2 ?_
    refine WH.only 3 rfl rfl (by kernel_rfl) rfl (OP.store rfl rfl rfl rfl rfl rfl rfl UP rfl ⟨(fun h => nomatch h), ?_⟩)
    refine DN ?_
    repeat (first | refine GD ?_ | refine NW fun _ => ?_)
    exact ret2c rfl rfl rfl rfl rfl (HasCut.ent (n := 5) HC).1 ⟨_, ⟨rfl, v5, hv5, rfl⟩, II⟩
  · rw [if_neg hk]
    repeat (first | refine GD ?_ | refine NW fun _ => ?_)
    refine WL.step rfl (OP.call (pre := [blk r [v3, .int .i64 _] 133, A]) rfl rfl (numR_ok r v3 y3.2 A hu hv3 (by omega)) PS rfl rfl ?_)
    rintro _ _ ⟨rfl, v4, hv4, rfl⟩
    generalize numR y3.2 = y4 at *
    repeat (first | refine GD ?_ | refine NW fun _ => ?_)
    refine RD 3 4 (_) ?_
    refine VV 0 ?_; refine VV 1 ?_; refine VV 2 ?_
    refine WH.only 3 rfl rfl (by kernel_rfl) rfl (OP.store rfl rfl rfl rfl rfl rfl rfl UP rfl ⟨(fun h => nomatch h), ?_⟩)
    refine DN ?_
    repeat (first | refine GD ?_ | refine NW fun _ => ?_)
    exact ret2c rfl rfl rfl rfl rfl (HasCut.ent (n := 5) HC).1 ⟨_, ⟨rfl, v4, hv4, rfl⟩, II⟩
end Go.Proofs.Yteednjcoapmkaaa
/- Contracts of functions of the given program, and plain laws on what they compute: parts of the proofs of laws. -/

namespace Go.Proofs.Yteednjcoapmkaaa
open Go Go.GL

set_option maxHeartbeats 1000000 in
set_option maxRecDepth 10000 in
theorem beq_ro (a1 a2 : Option Addr) (n1 c1 n2 c2 : Nat) (l1 l2 : List UInt8) : RO G 67 [.slice a1 n1 c1, .slice a2 n2 c2] (fun h => readS a1 n1 1 (l1.map byteV) h ∧ readS a2 n2 1 (l2.map byteV) h) (.bool (decide (l1 = l2))) := by
  refine RO.enter Try.func67 rfl (by decide) rfl Try.ntmps67 rfl (fun A hu hA => ?_) (up_and (up_readS _ _ _ _) (up_readS _ _ _ _))
  have hE1 : ∀ {L}, A ∈ L → Ent L (readS a1 n1 1 (l1.map byteV)) := fun m => Ent.mem m hu fun k x => (hA k x).1
  have hE2 : ∀ {L}, A ∈ L → Ent L (readS a2 n2 1 (l2.map byteV)) := fun m => Ent.mem m hu fun k x => (hA k x).2
  repeat (first | refine GO ?_ | refine NW fun _ => ?_)
  refine WL.step rfl (OP.toStr (sv := ba l1) rfl rfl rfl rfl rfl rfl rfl rfl (by rw [strCells_ba]; exact hE1 MM) rfl rfl ?_)
  repeat (first | refine GO ?_ | refine NW fun _ => ?_)
  refine WL.step rfl (OP.toStr (sv := ba l2) rfl rfl rfl rfl rfl rfl rfl rfl (by rw [strCells_ba]; exact hE2 MM) rfl rfl ?_)
  repeat (first | refine GO ?_ | refine NW fun _ => ?_)
  refine ret1 rfl ⟨?_, MM⟩
  congr 1
  by_cases h : l1 = l2
  · rw [decide_eq_true h, decide_eq_true (by rw [h])]
  · rw [decide_eq_false h, decide_eq_false (fun e => h (ba_inj e))]
set_option maxHeartbeats 1000000 in
set_option maxRecDepth 10000 in
theorem seq_ro (a1 a2 : Option Addr) (n1 c1 n2 c2 : Nat) (l1 l2 : List UInt8) (h1 : n1 = l1.length) (h2 : n2 = l2.length) (hs : n1 < 1000000) : RO G 77 [.slice a1 n1 c1, .slice a2 n2 c2] (fun h => readS a1 n1 1 (l1.map byteV) h ∧ readS a2 n2 1 (l2.map byteV) h) (.bool (decide (l1 = l2))) := by
  refine RO.enter Try.func77 rfl (by decide) rfl Try.ntmps77 rfl (fun A hu hA => ?_) (up_and (up_readS _ _ _ _) (up_readS _ _ _ _))
  have hE1 : ∀ {L}, A ∈ L → Ent L (readS a1 n1 1 (l1.map byteV)) := fun m => Ent.mem m hu fun k x => (hA k x).1
  have hE2 : ∀ {L}, A ∈ L → Ent L (readS a2 n2 1 (l2.map byteV)) := fun m => Ent.mem m hu fun k x => (hA k x).2
  by_cases hne : n1 = n2
  rotate_left
  · have : l1 ≠ l2 := fun e => hne (by rw [h1, h2, e])
    repeat (first | refine GD ?_ | refine NW fun _ => ?_)
    exact ret1 rfl ⟨by simp [this], MM⟩
  subst hne
  repeat (first | refine GD ?_ | refine NW fun _ => ?_)
  refine WC.loop (σ := Nat) (fun k => k ≤ n1 ∧ ∀ j, j < k → l1[j]? = l2[j]?)
    (fun k => [(0, .val (.slice a1 n1 c1)), (1, .val (.slice a2 n1 c2)), (12, .val (.int .i64 n1)), (13, .val (.int .i64 k))])
    (fun k => [A]) (fun k => n1 - k) 0 ⟨Nat.zero_le _, fun j hj => by omega⟩ ⟨rfl, rfl, rfl, rfl, trivial⟩ (Imp.refl _) ?_
  rintro k ⟨hk, hall⟩
  by_cases hlt : k < n1
  rotate_left
  · repeat (first | refine GD ?_ | refine NW fun _ => ?_)
    refine ret1 rfl ⟨?_, MM⟩
    have : l1 = l2 := List.ext_getElem? fun i => by
      by_cases hi : i < k
      · exact hall i hi
      · rw [List.getElem?_eq_none (by omega), List.getElem?_eq_none (by omega)]
    simp [this]
  have hl1 : k < l1.length := by omega
  have hl2 : k < l2.length := by omega
  repeat (first | refine GD ?_ | refine NW fun _ => ?_)
  refine WC.fact (Ent.some (hE1 MM) (by omega)) ?_
  rintro ⟨b, off, rfl⟩
  refine WC.fact (Ent.some (hE2 MM) (by omega)) ?_
  rintro ⟨b', off', rfl⟩
  refine RD 9 9 (_) ?_
  refine VV 0 ?_; refine VV 1 ?_; refine VV 2 ?_
  refine VQ 3 rfl (Quiet.load (v := byteV l1[k]) rfl rfl rfl (.inl ⟨rfl, Ent.elem (i := k * 1) (hE1 MM) rfl (by simp [hl1])⟩)) ?_
  refine VV 4 ?_; refine VV 5 ?_; refine VV 6 ?_
  refine VQ 7 rfl (Quiet.load (v := byteV l2[k]) rfl rfl rfl (.inl ⟨rfl, Ent.elem (i := k * 1) (hE2 MM) rfl (by simp [hl2])⟩)) ?_
  unfold byteV
  refine VV 8 ?_
  refine DN ?_
  by_cases he : l1[k] = l2[k]
  · have he2 : (l1[k].toNat : Int) = (l2[k].toNat : Int) := by rw [he]
    rw [decide_eq_true he2]
    repeat (first | refine GD ?_ | refine NW fun _ => ?_)
    exact ⟨k + 1, ⟨by omega, fun j hj => by
      by_cases e : j = k
      · subst e; rw [List.getElem?_eq_getElem hl1, List.getElem?_eq_getElem hl2, he]
      · exact hall j (by omega)⟩, by omega, ⟨rfl, rfl, rfl, rfl, trivial⟩, Imp.refl _⟩
  · have he2 : ¬ (l1[k].toNat : Int) = (l2[k].toNat : Int) := fun e => he (UInt8.toNat_inj.1 (by omega))
    rw [decide_eq_false he2]
    repeat (first | refine GD ?_ | refine NW fun _ => ?_)
    refine ret1 rfl ⟨?_, MM⟩
    have : l1 ≠ l2 := fun e => he (by subst e; rfl)
    simp [this]
set_option maxHeartbeats 1000000 in
set_option maxRecDepth 10000 in
theorem clone_ok (a : Addr) (n c : Nat) (l : List UInt8) (hn : n = l.length) (hs : n < 1000000) : RT G 79 [.slice (some a) n c] (readS (some a) n 1 (l.map byteV)) (BytesNew l) := by
  refine RT.enter Try.func79 rfl (by decide) rfl Try.ntmps79 rfl (fun A hu hA => ?_)
  have hE : ∀ {L}, A ∈ L → Ent L (readS (some a) n 1 (l.map byteV)) := fun m => Ent.mem m hu hA
  repeat (first | refine GO ?_ | refine NW fun _ => ?_)
  refine WL.step rfl (OP.lit0 (size := 1) rfl rfl rfl rfl rfl rfl (fun b => ?_))
  repeat (first | refine GO ?_ | refine NW fun _ => ?_)
  refine WL.step rfl (OP.append rfl rfl rfl rfl rfl rfl rfl rfl rfl P1 (hE MM) (allOne_bytes _) (by omega) (by omega) rfl rfl (fun a2' cap2 => ?_))
  rw [Nat.zero_add, List.nil_append]
  repeat (first | refine GO ?_ | refine NW fun _ => ?_)
  exact ret1 rfl ⟨[ownS a2' n cap2 5 1 (l.map byteV)], ⟨a2', cap2, by rw [hn], by rw [hn]⟩, II⟩
def OpenOk (l : List UInt8) : Prop := 4 ≤ l.length ∧ tailM (l.take (l.length - 4)) = l.drop (l.length - 4)
instance (l : List UInt8) : Decidable (OpenOk l) := by unfold OpenOk; infer_instance
def OpenPost (l : List UInt8) (v : Value) (E : List Assn) : Prop :=
  if OpenOk l then ∃ v1, v = .tuple #[v1, .bool true] ∧ BytesNew (l.take (l.length - 4)) v1 E else v = .tuple #[.slice none 0 0, .bool false] ∧ E = []
set_option maxHeartbeats 1000000 in
set_option maxRecDepth 10000 in
theorem open_ok (a : Option Addr) (n c : Nat) (l : List UInt8) (hn : n = l.length) (hc : n ≤ c) (hs : n < 1000000) : RT G 68 [.slice a n c] (readS a n 1 (l.map byteV)) (OpenPost l) := by
  refine RT.enter Try.func68 rfl (by decide) rfl Try.ntmps68 rfl (fun A hu hA => ?_)
  have hE : ∀ {L}, A ∈ L → Ent L (readS a n 1 (l.map byteV)) := fun m => Ent.mem m hu hA
  repeat (first | refine GO ?_ | refine NW fun _ => ?_)
  refine RD 13 13 ([A]) ?_
  by_cases h4 : n < 4
  · refine VV 0 ?_; refine VV 1 ?_
    rw [decide_eq_true (show (n : Int) - 4 < 0 by omega)]
    refine VV 2 ?_
    refine VF 3 ?_; refine VF 4 ?_; refine VF 5 ?_; refine VF 6 ?_; refine VF 7 ?_; refine VF 8 ?_; refine VF 9 ?_; refine VF 10 ?_; refine VF 11 ?_
    refine VQ 12 rfl (Quiet.pickT rfl rfl rfl) ?_
    refine DN ?_
    repeat (first | refine GD ?_ | refine NW fun _ => ?_)
    refine ret2 rfl rfl ⟨[], ?_, II⟩
    unfold OpenPost
    rw [if_neg (fun h => by have := h.1; omega)]
    exact ⟨rfl, rfl⟩
  refine VV 0 ?_; refine VV 1 ?_
  rw [decide_eq_false (show ¬ (n : Int) - 4 < 0 by omega)]
  refine VV 2 ?_; refine VV 3 ?_; refine VV 4 ?_; refine VV 5 ?_
  refine VV 7 ?_; refine VV 8 ?_; refine VV 9 ?_
  rw [show ((n : Int) - 4).toNat = n - 4 by omega]
  have hEt : ∀ {L}, A ∈ L → Ent L (readS a (n - 4) 1 ((l.take (n - 4)).map byteV)) := fun m => Ent.mem m hu fun h hh => by
    have := readS_take (m := n - 4) (hA h hh) (by omega)
    rw [Nat.mul_one, ← List.map_take] at this
    exact this
  have hEd : ∀ {L}, A ∈ L → Ent L (readS (cutA a c (n - 4) 1) (n - (n - 4)) 1 ((l.drop (n - 4)).map byteV)) := fun m => Ent.mem m hu fun h hh => by
    have := readS_cut (i := n - 4) (hA h hh) (by omega) hc
    rw [Nat.mul_one, ← List.map_drop] at this
    exact this
  refine WH.onlyG (q := true) 6 rfl rfl rfl rfl rfl rfl rfl (by kernel_rfl) rfl (.inl rfl) (fun _ => OP.callRT rfl rfl (tail_ok a (n - 4) c (l.take (n - 4)) (by rw [List.length_take]; omega) (by omega)) (hEt MM) rfl rfl (fun v E hE' => ?_)) (fun h => nomatch h)
  obtain ⟨a1, cap1, rfl, rfl⟩ := hE'
  refine ⟨fun _ => II, ?_⟩
  refine WH.onlyG (q := true) 10 rfl rfl rfl rfl rfl rfl rfl (by kernel_rfl) rfl (.inl rfl) (fun _ => OP.callRO rfl rfl (seq_ro a1 (cutA a c (n - 4) 1) _ cap1 (n - (n - 4)) (c - (n - 4)) (tailM (l.take (n - 4))) (l.drop (n - 4)) rfl (by rw [List.length_drop]; omega) (by rw [tailM_len]; decide)) (Ent.and (Ent.own (T := 5) MM) (hEd MM)) rfl rfl ⟨fun _ => II, ?_⟩) (fun h => nomatch h)
  by_cases heq : tailM (l.take (n - 4)) = l.drop (n - 4)
  · rw [decide_eq_true heq]
    refine VV 11 ?_; refine VV 12 ?_
    refine DN ?_
    refine WC.fact (Ent.some (hE MM) (by omega)) ?_
    rintro ⟨b, off, rfl⟩
    repeat (first | refine GD ?_ | refine NW fun _ => ?_)
    rw [show ((n : Int) - 4).toNat = n - 4 by omega]
    refine WL.step rfl (OP.callRT rfl rfl (clone_ok ⟨b, off, none⟩ (n - 4) c (l.take (n - 4)) (by rw [List.length_take]; omega) (by omega)) (hEt MM) rfl rfl ?_)
    rintro v E ⟨a2, cap2, rfl, rfl⟩
    repeat (first | refine GD ?_ | refine NW fun _ => ?_)
    refine ret2 rfl rfl ⟨[_], ?_, II⟩
    unfold OpenPost
    rw [if_pos ⟨by omega, by rw [← hn]; exact heq⟩, ← hn]
    exact ⟨_, rfl, a2, cap2, rfl, rfl⟩
  · rw [decide_eq_false heq]
    refine VV 11 ?_; refine VV 12 ?_
    refine DN ?_
    repeat (first | refine GD ?_ | refine NW fun _ => ?_)
    refine ret2 rfl rfl ⟨[], ?_, II⟩
    unfold OpenPost
    rw [if_neg (fun h => heq (by have := h.2; rwa [← hn] at this))]
    exact ⟨rfl, rfl⟩
end Go.Proofs.Yteednjcoapmkaaa
/- Contracts of functions of the given program, and plain laws on what they compute: parts of the proofs of laws. -/

namespace Go.Proofs.Yteednjcoapmkaaa
open Go Go.GL

theorem textR_size (most : Int) (s : PR) (hm : 0 ≤ most) : ((textR most s).1.size : Int) ≤ most := by
  have := numR_bd s
  unfold textR
  split
  · exact hm
  · split
    · exact hm
    · split
      · exact hm
      · simp only [ba_size, List.length_take]; omega
theorem readM_size (s : PR) : (readM s).1.2.2.2.2.1.size ≤ 16 := by
  unfold readM
  split
  · have := textR_size 16 (numR (numR (numR (numR s).2).2).2).2 (by decide); dsimp only; omega
  · exact Nat.zero_le _
def decR (l : List UInt8) : Except Int (Int × Rec) :=
  if OpenOk l ∧ l.length = 64 then
    if (readM (l.take 60, 0)).2.2 = 0 ∧ (RightR (readM (l.take 60, 0)).1.2 ∧ (0 ≤ (readM (l.take 60, 0)).1.1 ∧ (readM (l.take 60, 0)).1.1 ≤ widest)) ∧ sectorM (bodyM (readM (l.take 60, 0)).1.1 (readM (l.take 60, 0)).1.2) = l then .ok (readM (l.take 60, 0)).1 else .error 1
  else .error 4
def rec0 : Rec := (0, 0, 0, ⟨#[]⟩, 0)
def DecPost (l : List UInt8) (v : Value) (E : List Assn) : Prop :=
  match decR l with
  | .ok (g, r) => v = .tuple #[.int .i64 g, .agg (encR r).toArray, .nilIface] ∧ E = []
  | .error c => ∃ e, v = .tuple #[.int .i64 0, .agg (encR rec0).toArray, e] ∧ Fault recW 0 c e E
set_option maxHeartbeats 4000000 in
set_option maxRecDepth 10000 in
theorem decode5_ok (a : Option Addr) (n c : Nat) (l : List UInt8) (hn : n = l.length) (hc : n ≤ c) (hs : n < 1000000) : RT G 58 [.slice a n c] (readS a n 1 (l.map byteV)) (DecPost l) := by
  refine RT.enter Try.func58 rfl (by decide) rfl Try.ntmps58 rfl (fun A hu hA => ?_)
  have hE : ∀ {L}, A ∈ L → Ent L (readS a n 1 (l.map byteV)) := fun m => Ent.mem m hu hA
  repeat (first | refine GD ?_ | refine NW fun _ => ?_)
  refine WL.step rfl (OP.callRT rfl rfl (open_ok a n c l hn hc hs) (hE MM) rfl rfl ?_)
  rintro v E hO
  unfold OpenPost at hO
  by_cases ho : OpenOk l
  rotate_left
  · rw [if_neg ho] at hO
    obtain ⟨rfl, rfl⟩ := hO
    have hdec : decR l = .error 4 := by unfold decR; rw [if_neg (fun h => ho h.1)]
    repeat (first | refine GD ?_ | refine NW fun _ => ?_)
    refine WL.step rfl (OP.call (pre := []) (F := _) rfl rfl (wrap_ok _ _ _ (by decide)) (Imp.refl _) rfl rfl ?_)
    rintro v' E ⟨b', rfl, rfl⟩
    repeat (first | refine GD ?_ | refine NW fun _ => ?_)
    refine ret3c rfl rfl rfl rfl rfl rfl (HasCut.ent (n := 5) HC).1 ⟨[_], ?_, II⟩
    unfold DecPost
    rw [hdec]
    exact ⟨_, rfl, _, rfl, rfl⟩
  rw [if_pos ho] at hO
  obtain ⟨v1, rfl, a2, cap2, rfl, rfl⟩ := hO
  by_cases h64 : n = 64
  rotate_left
  · have hdec : decR l = .error 4 := by unfold decR; rw [if_neg (fun h => h64 (by omega))]
    repeat (first | refine GD ?_ | refine NW fun _ => ?_)
    refine WL.step rfl (OP.call (pre := []) (F := _) rfl rfl (wrap_ok _ _ _ (by decide)) (Imp.refl _) rfl rfl ?_)
    rintro v' E ⟨b', rfl, rfl⟩
    repeat (first | refine GD ?_ | refine NW fun _ => ?_)
    refine ret3c rfl rfl rfl rfl rfl rfl (HasCut.ent (n := 5) HC).1 ⟨[_], ?_, II⟩
    unfold DecPost
    rw [hdec]
    exact ⟨_, rfl, _, rfl, rfl⟩
  have e60 : l.take (l.length - 4) = l.take 60 := by rw [← hn, h64]
  have hl60 : (l.take 60).length = 60 := by rw [List.length_take]; omega
  rw [e60, hl60]
  refine WL.fact (Ent.ownLe (a := a2) (n := 60) (cap := cap2) (T := 5) (size := 1) (cs := (l.take 60).map byteV) MM) (fun hc2 => ?_)
  have hby : Bytes (ownS a2 60 cap2 5 1 ((l.take 60).map byteV)) (l.take 60) (.slice a2 60 cap2) := ⟨a2, 60, cap2, rfl, hl60.symm, hc2, fun h x => read_of_own x⟩
  repeat (first | refine GD ?_ | refine NW fun _ => ?_)
  refine WL.step rfl (OP.callRT rfl rfl (read0_ok a2 60 cap2) (fun _ _ => trivial) rfl rfl ?_)
  rintro v E ⟨r, rfl, rfl⟩
  repeat (first | refine GD ?_ | refine NW fun _ => ?_)
  refine WL.step rfl (OP.call (pre := [blk r [.slice a2 60 cap2, .int .i64 0] 133, ownS a2 60 cap2 5 1 ((l.take 60).map byteV)]) rfl rfl (read5_ok r _ (l.take 60, 0) (ownS a2 60 cap2 5 1 ((l.take 60).map byteV)) (up_ownS _ _ _ _ _ _) hby (by dsimp only; omega)) PS rfl rfl ?_)
  rintro _ _ ⟨rfl, v2, hv2, rfl⟩
  have hsz := readM_size (l.take 60, 0)
  have hdR : decR l = if (readM (l.take 60, 0)).2.2 = 0 ∧ (RightR (readM (l.take 60, 0)).1.2 ∧ (0 ≤ (readM (l.take 60, 0)).1.1 ∧ (readM (l.take 60, 0)).1.1 ≤ widest)) ∧ sectorM (bodyM (readM (l.take 60, 0)).1.1 (readM (l.take 60, 0)).1.2) = l then .ok (readM (l.take 60, 0)).1 else .error 1 := by
    unfold decR; rw [if_pos ⟨ho, by omega⟩]
  generalize readM (l.take 60, 0) = y at *
  obtain ⟨⟨g, q⟩, ⟨l2, e2⟩⟩ := y
  dsimp only at hsz hdR hv2 ⊢
  repeat (first | refine GD ?_ | refine NW fun _ => ?_)
  refine WL.step rfl (OP.callRT rfl rfl (encode_ok g q (by omega)) (fun _ _ => trivial) rfl rfl ?_)
  rintro v E hEnc
  unfold EncPost at hEnc
  by_cases hr : RightR q ∧ (0 ≤ g ∧ g ≤ widest)
  rotate_left
  · rw [if_neg hr] at hEnc
    obtain ⟨e, rfl, b1, rfl, rfl⟩ := hEnc
    have hdec : decR l = .error 1 := by rw [hdR, if_neg (fun h => hr h.2.1)]
    repeat (first | refine GD ?_ | refine NW fun _ => ?_)
    refine WL.step rfl (OP.callRO rfl rfl (err_ro r v2 e2) (Ent.whole (T := 133) MM) rfl rfl ?_)
    by_cases he2 : e2 = 0
    · repeat (first | refine GD ?_ | refine NW fun _ => ?_)
      refine WL.step rfl (OP.call (pre := []) (F := _) rfl rfl (wrap_ok _ _ _ (by decide)) (Imp.refl _) rfl rfl ?_)
      rintro v' E ⟨b', rfl, rfl⟩
      repeat (first | refine GD ?_ | refine NW fun _ => ?_)
      refine ret3c rfl rfl rfl rfl rfl rfl (HasCut.ent (n := 5) HC).1 ⟨[_], ?_, II⟩
      unfold DecPost
      rw [hdec]
      exact ⟨_, rfl, _, rfl, rfl⟩
    · repeat (first | refine GD ?_ | refine NW fun _ => ?_)
      refine WL.step rfl (OP.call (pre := []) (F := _) rfl rfl (wrap_ok _ _ _ (by decide)) (Imp.refl _) rfl rfl ?_)
      rintro v' E ⟨b', rfl, rfl⟩
      repeat (first | refine GD ?_ | refine NW fun _ => ?_)
      refine ret3c rfl rfl rfl rfl rfl rfl (HasCut.ent (n := 5) HC).1 ⟨[_], ?_, II⟩
      unfold DecPost
      rw [hdec]
      exact ⟨_, rfl, _, rfl, rfl⟩
  rw [if_pos hr] at hEnc
  obtain ⟨v3, rfl, a3, cap3, rfl, rfl⟩ := hEnc
  repeat (first | refine GD ?_ | refine NW fun _ => ?_)
  refine WL.step rfl (OP.callRO rfl rfl (err_ro r v2 e2) (Ent.whole (T := 133) MM) rfl rfl ?_)
  by_cases he2 : e2 = 0
  rotate_left
  · have hdec : decR l = .error 1 := by rw [hdR, if_neg (fun h => he2 h.1)]
    repeat (first | refine GD ?_ | refine NW fun _ => ?_)
    refine WL.step rfl (OP.call (pre := []) (F := _) rfl rfl (wrap_ok _ _ _ (by decide)) (Imp.refl _) rfl rfl ?_)
    rintro v' E ⟨b', rfl, rfl⟩
    repeat (first | refine GD ?_ | refine NW fun _ => ?_)
    refine ret3c rfl rfl rfl rfl rfl rfl (HasCut.ent (n := 5) HC).1 ⟨[_], ?_, II⟩
    unfold DecPost
    rw [hdec]
    exact ⟨_, rfl, _, rfl, rfl⟩
  repeat (first | refine GD ?_ | refine NW fun _ => ?_)
  refine WL.guardT rfl rfl rfl rfl (OP.callRO rfl rfl (beq_ro a3 a _ cap3 n c (sectorM (bodyM g q)) l) (Ent.and (Ent.own (T := 5) MM) (hE MM)) rfl rfl ?_)
  by_cases heq : sectorM (bodyM g q) = l
  rotate_left
  · have hdec : decR l = .error 1 := by rw [hdR, if_neg (fun h => heq h.2.2)]
    rw [decide_eq_false heq]
    repeat (first | refine GD ?_ | refine NW fun _ => ?_)
    refine WL.step rfl (OP.call (pre := []) (F := _) rfl rfl (wrap_ok _ _ _ (by decide)) (Imp.refl _) rfl rfl ?_)
    rintro v' E ⟨b', rfl, rfl⟩
    repeat (first | refine GD ?_ | refine NW fun _ => ?_)
    refine ret3c rfl rfl rfl rfl rfl rfl (HasCut.ent (n := 5) HC).1 ⟨[_], ?_, II⟩
    unfold DecPost
    rw [hdec]
    exact ⟨_, rfl, _, rfl, rfl⟩
  have hdec : decR l = .ok (g, q) := by rw [hdR, if_pos ⟨he2, hr, heq⟩]
  rw [decide_eq_true heq]
  repeat (first | refine GD ?_ | refine NW fun _ => ?_)
  refine RD 3 5 (_) ?_
  refine VV 0 ?_; refine VV 1 ?_; refine VV 2 ?_
  refine WH.only 3 rfl rfl (by kernel_rfl) rfl (OP.store rfl rfl rfl rfl rfl rfl rfl UP rfl ⟨(fun h => nomatch h), ?_⟩)
  refine WW 4 ?_
  refine DN ?_
  repeat (first | refine GD ?_ | refine NW fun _ => ?_)
  refine ret3c rfl rfl rfl rfl rfl rfl (HasCut.ent (n := 5) HC).1 ⟨[], ?_, II⟩
  unfold DecPost
  rw [hdec]
  exact ⟨rfl, rfl⟩
end Go.Proofs.Yteednjcoapmkaaa
/- Contracts of functions of the given program, and plain laws on what they compute: parts of the proofs of laws. -/

namespace Go.Proofs.Yteednjcoapmkaaa
open Go Go.GL

theorem textR_textB {d : ByteArray} (hd : d.size ≤ 16) (rest : List UInt8) : textR 16 (textB d ++ rest, 0) = (d, (rest, 0)) := by
  have hw : (16 : Int) ≤ widest := by decide
  have hl : d.data.toList.length = d.size := Array.length_toList
  have hc := clamp_nat d.size (by omega)
  have h := numR_numB (x := (d.size : Int)) (by omega) (d.data.toList ++ rest)
  rw [hc] at h
  unfold textB textR
  rw [List.append_assoc, h]
  dsimp only
  rw [if_neg (by simp), if_neg (by omega), if_neg (by rw [List.length_append]; omega), Int.toNat_natCast, ← hl, List.take_left, List.drop_left, ba_data]
theorem readM_body {g : Int} {r : Rec} (hr : RightR r) (hg : 0 ≤ g ∧ g ≤ widest) (rest : List UInt8) : readM (bodyM g r ++ rest, 0) = ((g, r), (rest, 0)) := by
  obtain ⟨s1, k1, b1, d1, n1⟩ := r
  obtain ⟨hs1, hc1⟩ := hr
  have hw : (8 : Int) ≤ widest := by decide
  dsimp only at hs1 hc1
  unfold bodyM
  dsimp only
  simp only [List.append_assoc]
  unfold readM
  rw [numR_numB hg, numR_numB (by omega), numR_numB (by omega)]
  by_cases hk : k1 = 1
  · rw [if_pos hk, if_pos hk]
    have hc1 := hc1.resolve_left (fun x => by omega)
    simp only [List.append_assoc]
    rw [numR_numB (by omega), textR_textB hc1.2.2.1, hc1.2.2.2]
  · rw [if_neg hk, if_neg hk]
    have hc1 := hc1.resolve_right (fun x => hk x.1)
    rw [numR_numB (by omega), hc1.2.2.1, hc1.2.2.2]
theorem decR_enc {g : Int} {r : Rec} (hr : RightR r) (hg : 0 ≤ g ∧ g ≤ widest) : decR (sectorM (bodyM g r)) = .ok (g, r) := by
  have hp := padM_len (bodyM_len (gen := g) hr)
  have hl := sectorM_len (bodyM_len (gen := g) hr)
  have e1 : (sectorM (bodyM g r)).take 60 = padM (bodyM g r) := by unfold sectorM; rw [List.take_left' hp]
  have e2 : (sectorM (bodyM g r)).drop 60 = tailM (padM (bodyM g r)) := by unfold sectorM; rw [List.drop_left' hp]
  have ho : OpenOk (sectorM (bodyM g r)) := by
    unfold OpenOk
    rw [hl]
    exact ⟨by omega, by rw [e1, e2]⟩
  unfold decR
  rw [if_pos ⟨ho, hl⟩, e1]
  have := readM_body hr hg (List.replicate (60 - (bodyM g r).length) 0)
  unfold padM
  rw [this, if_pos ⟨rfl, ⟨hr, hg⟩, rfl⟩]
theorem decR_ok {l : List UInt8} {g : Int} {r : Rec} (h : decR l = .ok (g, r)) : RightR r ∧ (0 ≤ g ∧ g ≤ widest) ∧ sectorM (bodyM g r) = l ∧ r.2.2.2.1.size ≤ 16 := by
  have hsz := readM_size (l.take 60, 0)
  unfold decR at h
  split at h
  · split at h
    · rename_i hc
      simp only [Except.ok.injEq] at h
      rw [h] at hc hsz
      exact ⟨hc.2.1.1, hc.2.1.2, hc.2.2, hsz⟩
    · cases h
  · cases h
end Go.Proofs.Yteednjcoapmkaaa
