/- Contracts of functions of the given program, and plain laws on what they compute: parts of the proofs of laws. -/
import Derived.Test.YtkoakmaihcheaacDoorGLt
import Derived.Test.YtkoakmaihcheaacDoorR9

namespace Go.Proofs.YtkoakmaihcheaacDoor
open Go Go.GL

def numF : Except Int (Nat × List UInt8) → Int × PR
  | .ok (n, t) => ((n : Int), (t, 0))
  | .error e => (0, ([], e))
theorem numR_zero (l : List UInt8) : numR (l, 0) = numF (rdN 0 0 l) := by
  unfold numR numF
  rw [if_neg (by simp)]
  cases rdN 0 0 l <;> rfl
theorem numR_err {s : PR} (h : s.2 ≠ 0) : numR s = (0, s) := by unfold numR; rw [if_pos h]
set_option maxHeartbeats 4000000 in
set_option maxRecDepth 10000 in
theorem numR_ok (r : Nat) (v : Value) (s : PR) (A : Assn) (hu : Up A) (hv : Bytes A s.1 v) (hl : s.1.length < 1000000) :
    Triple G 49 [.pointer (some ⟨r, 0, none⟩)] [blk r [v, .int .i64 s.2] 107, A] (RdPost r A (.int .i64 (numR s).1) (numR s).2) := by
  refine Triple.enter Tryd.func49 rfl (by decide) rfl Tryd.ntmps49 rfl (fun F => ?_)
  obtain ⟨l, e⟩ := s
  dsimp only at hv hl ⊢
  repeat (first | refine GO ?_ | refine NW fun _ => ?_)
  refine WL.step rfl (OP.callRO rfl rfl (err_ro r v e) (Ent.whole (T := 107) MM) rfl rfl ?_)
  by_cases he : e = 0
  rotate_left
  · rw [numR_err he]
    repeat (first | refine GD ?_ | refine NW fun _ => ?_)
    exact ret1 rfl ⟨_, ⟨rfl, v, hv, rfl⟩, Imp.refl _⟩
  subst he
  rw [numR_zero]
  obtain ⟨a, n, c, rfl, hn, hc, hr⟩ := hv
  have hE : ∀ {L}, A ∈ L → Ent L (readS a n 1 (l.map byteV)) := fun m => Ent.mem m hu hr
  generalize hF : rdN 0 0 l = R
  repeat (first | refine GD ?_ | refine NW fun _ => ?_)
  refine WC.loop (σ := Nat × Nat) (fun s => s.1 ≤ 8 ∧ s.1 ≤ n ∧ s.2 < 128 ^ s.1 ∧ rdN s.1 s.2 (l.drop s.1) = R)
    (fun s => [(0, .val (.pointer (some ⟨r, 0, none⟩))), (3, .val (.int .i64 s.2)), (12, .val (.slice a n c)), (13, .val (.int .i64 n)), (14, .val (.int .i64 s.1))])
    (fun _ => [blk r [.slice a n c, .int .i64 0] 107, A, F]) (fun s => n - s.1) (0, 0) ⟨by simp, by simp, by simp, hF⟩ ⟨rfl, rfl, rfl, rfl, rfl, trivial⟩ II ?_
  rintro ⟨i, m⟩ ⟨hi8, hin, hm, hR⟩
  dsimp only at hi8 hin hm hR ⊢
  by_cases hlt : i < n
  rotate_left
  · rw [List.drop_eq_nil_of_le (by omega)] at hR
    subst hR
    repeat (first | refine GD ?_ | refine NW fun _ => ?_)
    refine WL.step rfl (OP.call (pre := [blk r [.slice a n c, .int .i64 0] 107, A]) rfl rfl (wrong5_ok r A _ 0 2) PS rfl rfl ?_)
    rintro _ _ ⟨rfl, v', hv', rfl⟩
    repeat (first | refine GD ?_ | refine NW fun _ => ?_)
    exact ret1 rfl ⟨_, ⟨rfl, v', hv', rfl⟩, Imp.refl _⟩
  have hl1 : i < l.length := by omega
  rw [List.drop_eq_getElem_cons hl1, rdN_cons] at hR
  repeat (first | refine GD ?_ | refine NW fun _ => ?_)
  refine WL.fact (Ent.some (hE MM) (by omega)) ?_
  rintro ⟨b, off, rfl⟩
  repeat (first | refine GD ?_ | refine NW fun _ => ?_)
  refine WL.step rfl (OP.load1 (v := byteV l[i]) rfl rfl rfl rfl (Ent.elem (i := i * 1) (hE MM) rfl (by simp [hl1])) rfl rfl ?_)
  generalize l[i] = x at *
  have hx8 : x.toNat < 256 := x.toNat_lt
  unfold byteV
  have hx128 : x.toNat % 128 < 128 := by omega
  have hbits : bitsV .or .i64 (m : Int) (shlV .i64 (IntKind.i64.wrap (bitsV .andNot .u8 (x.toNat : Int) 128)) (7 * (i : Int))) = ((m + x.toNat % 128 * 128 ^ i : Nat) : Int) := by
    rw [andnot_byte, wrap_fit (k := .i64) (show Fit .i64 _ by unfold Fit; omega), shl_num _ _ hx128 hi8, or_num _ _ _ hm hx128 hi8]
  have hm2 : m + x.toNat % 128 * 128 ^ i < 128 ^ (i + 1) := by
    have h1 : x.toNat % 128 * 128 ^ i ≤ 127 * 128 ^ i := Nat.mul_le_mul_right _ (by omega)
    rw [Nat.pow_succ]
    omega
  have hp8 := pow128 i hi8
  have h127 : x.toNat % 128 * 128 ^ i ≤ 127 * 128 ^ 8 := Nat.mul_le_mul (by omega) hp8
  generalize hmm : m + x.toNat % 128 * 128 ^ i = m2 at *
  by_cases h8 : i = 8
  · by_cases hc1 : 128 ≤ x.toNat
    · rw [if_pos (by omega)] at hR
      repeat (first | refine GD ?_ | refine NW fun _ => ?_)
      refine WL.step rfl (OP.call (pre := [blk r [.slice (some ⟨b, off, none⟩) n c, .int .i64 0] 107, A]) rfl rfl (wrong5_ok r A _ 0 1) PS rfl rfl ?_)
      rintro _ _ ⟨rfl, v', hv', rfl⟩
      repeat (first | refine GD ?_ | refine NW fun _ => ?_)
      subst hR
      exact ret1 rfl ⟨_, ⟨rfl, v', hv', rfl⟩, Imp.refl _⟩
    · by_cases hw : widest < (m2 : Int)
      · rw [if_pos (by omega)] at hR
        repeat (first | refine GD ?_ | refine NW fun _ => ?_)
        rw [hbits, decide_eq_true (show (1152921504606846975 : Int) < (m2 : Int) from hw)]
        repeat (first | refine GD ?_ | refine NW fun _ => ?_)
        refine WL.step rfl (OP.call (pre := [blk r [.slice (some ⟨b, off, none⟩) n c, .int .i64 0] 107, A]) rfl rfl (wrong5_ok r A _ 0 1) PS rfl rfl ?_)
        rintro _ _ ⟨rfl, v', hv', rfl⟩
        repeat (first | refine GD ?_ | refine NW fun _ => ?_)
        subst hR
        exact ret1 rfl ⟨_, ⟨rfl, v', hv', rfl⟩, Imp.refl _⟩
      · by_cases hz : x.toNat = 0
        · rw [if_pos (by omega)] at hR
          repeat (first | refine GD ?_ | refine NW fun _ => ?_)
          rw [hbits, decide_eq_false (show ¬ (1152921504606846975 : Int) < (m2 : Int) from hw)]
          repeat (first | refine GD ?_ | refine NW fun _ => ?_)
          refine WL.step rfl (OP.call (pre := [blk r [.slice (some ⟨b, off, none⟩) n c, .int .i64 0] 107, A]) rfl rfl (wrong5_ok r A _ 0 1) PS rfl rfl ?_)
          rintro _ _ ⟨rfl, v', hv', rfl⟩
          repeat (first | refine GD ?_ | refine NW fun _ => ?_)
          subst hR
          exact ret1 rfl ⟨_, ⟨rfl, v', hv', rfl⟩, Imp.refl _⟩
        · rw [if_neg (by omega), if_pos (by omega)] at hR
          have hlt8 : x.toNat < 128 := by omega
          repeat (first | refine GD ?_ | refine NW fun _ => ?_)
          rw [hbits, decide_eq_false (show ¬ (1152921504606846975 : Int) < (m2 : Int) from hw)]
          repeat (first | refine GD ?_ | refine NW fun _ => ?_)
          subst hR
          refine ret1 rfl ⟨_, ⟨rfl, _, ⟨_, _, _, rfl, ?_, ?_, ?_⟩, rfl⟩, Imp.refl _⟩
          · dsimp only [numF]; rw [List.length_drop]; omega
          · omega
          · intro h hh
            have := readS_cut (i := i + 1) (hr h hh) (by omega) hc
            rw [Nat.mul_one, ← List.map_drop] at this
            exact this
  · by_cases hi0 : 0 < i
    · by_cases hz : x.toNat = 0
      · rw [if_pos (by omega)] at hR
        repeat (first | refine GD ?_ | refine NW fun _ => ?_)
        refine WL.step rfl (OP.call (pre := [blk r [.slice (some ⟨b, off, none⟩) n c, .int .i64 0] 107, A]) rfl rfl (wrong5_ok r A _ 0 1) PS rfl rfl ?_)
        rintro _ _ ⟨rfl, v', hv', rfl⟩
        repeat (first | refine GD ?_ | refine NW fun _ => ?_)
        subst hR
        exact ret1 rfl ⟨_, ⟨rfl, v', hv', rfl⟩, Imp.refl _⟩
      · by_cases hc1 : x.toNat < 128
        · rw [if_neg (by omega), if_pos (by omega)] at hR
          repeat (first | refine GD ?_ | refine NW fun _ => ?_)
          rw [hbits]
          subst hR
          refine ret1 rfl ⟨_, ⟨rfl, _, ⟨_, _, _, rfl, ?_, ?_, ?_⟩, rfl⟩, Imp.refl _⟩
          · dsimp only [numF]; rw [List.length_drop]; omega
          · omega
          · intro h hh
            have := readS_cut (i := i + 1) (hr h hh) (by omega) hc
            rw [Nat.mul_one, ← List.map_drop] at this
            exact this
        · rw [if_neg (by omega), if_neg (by omega)] at hR
          repeat (first | refine GD ?_ | refine NW fun _ => ?_)
          rw [hbits]
          exact ⟨(i + 1, m2), ⟨by dsimp only; omega, by dsimp only; omega, hm2, hR⟩, by dsimp only; omega, ⟨rfl, rfl, rfl, rfl, rfl, trivial⟩, Imp.refl _⟩
    · by_cases hc1 : x.toNat < 128
      · rw [if_neg (by omega), if_pos (by omega)] at hR
        repeat (first | refine GD ?_ | refine NW fun _ => ?_)
        rw [hbits]
        subst hR
        refine ret1 rfl ⟨_, ⟨rfl, _, ⟨_, _, _, rfl, ?_, ?_, ?_⟩, rfl⟩, Imp.refl _⟩
        · dsimp only [numF]; rw [List.length_drop]; omega
        · omega
        · intro h hh
          have := readS_cut (i := i + 1) (hr h hh) (by omega) hc
          rw [Nat.mul_one, ← List.map_drop] at this
          exact this
      · rw [if_neg (by omega), if_neg (by omega)] at hR
        repeat (first | refine GD ?_ | refine NW fun _ => ?_)
        rw [hbits]
        exact ⟨(i + 1, m2), ⟨by dsimp only; omega, by dsimp only; omega, hm2, hR⟩, by dsimp only; omega, ⟨rfl, rfl, rfl, rfl, rfl, trivial⟩, Imp.refl _⟩
end Go.Proofs.YtkoakmaihcheaacDoor
