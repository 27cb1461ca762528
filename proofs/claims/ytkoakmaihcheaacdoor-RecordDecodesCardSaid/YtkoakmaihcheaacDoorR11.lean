/- Contracts of functions of the given program, and plain laws on what they compute: parts of the proofs of laws. -/
import Derived.Test.YtkoakmaihcheaacDoorGLt
import Derived.Test.YtkoakmaihcheaacDoorR10

namespace Go.Proofs.YtkoakmaihcheaacDoor
open Go Go.GL

theorem rdN_rest : ∀ (l : List UInt8) (i n : Nat) (m : Nat) (t : List UInt8), rdN i n l = .ok (m, t) → t.length ≤ l.length ∧ (i ≤ 8 → n < 128 ^ i → (m : Int) < 128 ^ 9)
  | [], i, n, m, t, h => by cases h
  | c :: r, i, n, m, t, h => by
    have hc8 : c.toNat < 256 := c.toNat_lt
    have h1 : c.toNat % 128 * 128 ^ i ≤ 127 * 128 ^ i := Nat.mul_le_mul_right _ (by omega)
    rw [rdN_cons] at h
    split at h
    · cases h
    · rename_i hC
      split at h
      · cases h
        refine ⟨by simp, fun hi hn => ?_⟩
        have := pow128 i hi
        omega
      · have ih := rdN_rest r (i + 1) _ m t h
        refine ⟨by simp only [List.length_cons]; omega, fun hi hn => ih.2 (by omega) (by rw [Nat.pow_succ]; omega)⟩
theorem numR_bd (s : PR) : (numR s).2.1.length ≤ s.1.length ∧ 0 ≤ (numR s).1 ∧ (numR s).1 < 128 ^ 9 := by
  by_cases he : s.2 = 0
  · obtain ⟨l, e⟩ := s
    obtain rfl : e = 0 := he
    rw [numR_zero]
    cases h : rdN 0 0 l with
    | ok x => obtain ⟨m, t⟩ := x; have := rdN_rest l 0 0 m t h; exact ⟨this.1, by simp [numF], this.2 (by omega) (by simp)⟩
    | error e => simp [numF]
  · rw [numR_err he]; exact ⟨Nat.le_refl _, Int.le_refl _, (by decide : (0 : Int) < 128 ^ 9)⟩
def textR (most : Int) (s : PR) : ByteArray × PR :=
  if (numR s).2.2 ≠ 0 then (⟨#[]⟩, (numR s).2)
  else if most < (numR s).1 then (⟨#[]⟩, ([], 1))
  else if ((numR s).2.1.length : Int) < (numR s).1 then (⟨#[]⟩, ([], 2))
  else (ba ((numR s).2.1.take (numR s).1.toNat), ((numR s).2.1.drop (numR s).1.toNat, (numR s).2.2))
set_option maxHeartbeats 1000000 in
set_option maxRecDepth 10000 in
theorem textR_ok (r : Nat) (v : Value) (s : PR) (A : Assn) (hu : Up A) (hv : Bytes A s.1 v) (hl : s.1.length < 1000000) (most : Int) :
    Triple G 50 [.pointer (some ⟨r, 0, none⟩), .int .i64 most] [blk r [v, .int .i64 s.2] 107, A] (RdPost r A (.string (textR most s).1) (textR most s).2) := by
  refine Triple.enter Tryd.func50 rfl (by decide) rfl Tryd.ntmps50 rfl (fun F => ?_)
  repeat (first | refine GO ?_ | refine NW fun _ => ?_)
  refine WL.step rfl (OP.call (pre := [blk r [v, .int .i64 s.2] 107, A]) rfl rfl (numR_ok r v s A hu hv hl) PS rfl rfl ?_)
  rintro _ _ ⟨rfl, v', hv', rfl⟩
  have hbd := numR_bd s
  unfold textR
  generalize numR s = y at *
  obtain ⟨x, l, e⟩ := y
  dsimp only at hbd hv' ⊢
  repeat (first | refine GD ?_ | refine NW fun _ => ?_)
  refine WL.step rfl (OP.callRO rfl rfl (err_ro r v' e) (Ent.whole (T := 107) MM) rfl rfl ?_)
  by_cases he : e = 0
  rotate_left
  · rw [if_pos he]
    repeat (first | refine GD ?_ | refine NW fun _ => ?_)
    exact ret1 rfl ⟨_, ⟨rfl, v', hv', rfl⟩, Imp.refl _⟩
  subst he
  rw [if_neg (by simp)]
  by_cases h1 : most < x
  · rw [if_pos h1]
    repeat (first | refine GD ?_ | refine NW fun _ => ?_)
    refine WL.step rfl (OP.call (pre := [blk r [v', .int .i64 0] 107, A]) rfl rfl (wrong5_ok r A _ 0 1) PS rfl rfl ?_)
    rintro _ _ ⟨rfl, v2, hv2, rfl⟩
    repeat (first | refine GD ?_ | refine NW fun _ => ?_)
    exact ret1 rfl ⟨_, ⟨rfl, v2, hv2, rfl⟩, Imp.refl _⟩
  rw [if_neg h1]
  obtain ⟨a, n, c, rfl, hn, hc, hr⟩ := hv'
  by_cases h2 : (l.length : Int) < x
  · rw [if_pos h2]
    repeat (first | refine GD ?_ | refine NW fun _ => ?_)
    refine WL.step rfl (OP.call (pre := [blk r [.slice a n c, .int .i64 0] 107, A]) rfl rfl (wrong5_ok r A _ 0 2) PS rfl rfl ?_)
    rintro _ _ ⟨rfl, v2, hv2, rfl⟩
    repeat (first | refine GD ?_ | refine NW fun _ => ?_)
    exact ret1 rfl ⟨_, ⟨rfl, v2, hv2, rfl⟩, Imp.refl _⟩
  rw [if_neg h2]
  repeat (first | refine GD ?_ | refine NW fun _ => ?_)
  refine WL.step rfl (OP.toStr (sv := ba (l.take x.toNat)) rfl rfl rfl rfl rfl rfl rfl rfl (by rw [strCells_ba, List.map_take]; exact Ent.mem MM hu (fun h hh => by have := readS_take (m := x.toNat) (hr h hh) (by omega); rwa [Nat.mul_one] at this)) rfl rfl ?_)
  repeat (first | refine GD ?_ | refine NW fun _ => ?_)
  refine ret1 rfl ⟨_, ⟨rfl, _, ⟨_, _, _, rfl, ?_, ?_, ?_⟩, rfl⟩, Imp.refl _⟩
  · rw [List.length_drop]; omega
  · omega
  · intro h hh
    have := readS_cut (i := x.toNat) (hr h hh) (by omega) hc
    rw [Nat.mul_one, ← List.map_drop] at this
    exact this
theorem textR_len (most : Int) (s : PR) : (textR most s).2.1.length ≤ s.1.length := by
  have := numR_bd s
  unfold textR
  split
  · exact this.1
  · split
    · simp
    · split
      · simp
      · simp only [List.length_drop]; omega
set_option maxRecDepth 10000 in
theorem read0_ok (a : Option Addr) (n c : Nat) : RT G 27 [.slice a n c] (fun _ => True) (fun x E => ∃ r, x = .pointer (some ⟨r, 0, none⟩) ∧ E = [blk r [.slice a n c, .int .i64 0] 107]) := by
  refine RT.enter Tryd.func27 rfl (by decide) rfl Tryd.ntmps27 rfl (fun A _ hA => ?_)
  repeat (first | refine GO ?_ | refine NW fun _ => ?_)
  exact ret1 rfl ⟨[_], ⟨_, rfl, rfl⟩, Imp.refl _⟩
def readM (s : PR) : (Int × Rec) × PR :=
  if (numR (numR (numR s).2).2).1 = 1 then
    (((numR s).1, ((numR (numR s).2).1, (numR (numR (numR s).2).2).1, (numR (numR (numR (numR s).2).2).2).1, (textR 16 (numR (numR (numR (numR s).2).2).2).2).1, 0)), (textR 16 (numR (numR (numR (numR s).2).2).2).2).2)
  else (((numR s).1, ((numR (numR s).2).1, (numR (numR (numR s).2).2).1, 0, ⟨#[]⟩, (numR (numR (numR (numR s).2).2).2).1)), (numR (numR (numR (numR s).2).2).2).2)
set_option maxHeartbeats 1000000 in
set_option maxRecDepth 10000 in
theorem read5_ok (r : Nat) (v : Value) (s : PR) (A : Assn) (hu : Up A) (hv : Bytes A s.1 v) (hl : s.1.length < 1000000) :
    Triple G 28 [.pointer (some ⟨r, 0, none⟩)] [blk r [v, .int .i64 s.2] 107, A] (RdPost r A (.tuple #[.int .i64 (readM s).1.1, .agg (encR (readM s).1.2).toArray]) (readM s).2) := by
  refine Triple.enter Tryd.func28 rfl (by decide) rfl Tryd.ntmps28 rfl (fun F => ?_)
  have b1 := numR_bd s
  have b2 := numR_bd (numR s).2
  have b3 := numR_bd (numR (numR s).2).2
  have b4 := numR_bd (numR (numR (numR s).2).2).2
  unfold readM
  repeat (first | refine GO ?_ | refine NW fun _ => ?_)
  refine WL.step rfl (OP.call (pre := [blk r [v, .int .i64 s.2] 107, A]) rfl rfl (numR_ok r v s A hu hv hl) PS rfl rfl ?_)
  rintro _ _ ⟨rfl, v1, hv1, rfl⟩
  repeat (first | refine GO ?_ | refine NW fun _ => ?_)
  refine WL.step rfl (OP.call (pre := [blk r [v1, .int .i64 _] 107, A]) rfl rfl (numR_ok r v1 (numR s).2 A hu hv1 (by omega)) PS rfl rfl ?_)
  rintro _ _ ⟨rfl, v2, hv2, rfl⟩
  repeat (first | refine GO ?_ | refine NW fun _ => ?_)
  refine WL.step rfl (OP.call (pre := [blk r [v2, .int .i64 _] 107, A]) rfl rfl (numR_ok r v2 (numR (numR s).2).2 A hu hv2 (by omega)) PS rfl rfl ?_)
  rintro _ _ ⟨rfl, v3, hv3, rfl⟩
  generalize numR s = y1 at *
  generalize numR y1.2 = y2 at *
  generalize numR y2.2 = y3 at *
  by_cases hk : y3.1 = 1
  · rw [if_pos hk]
    repeat (first | refine GD ?_ | refine NW fun _ => ?_)
    refine WL.step rfl (OP.call (pre := [blk r [v3, .int .i64 _] 107, A]) rfl rfl (numR_ok r v3 y3.2 A hu hv3 (by omega)) PS rfl rfl ?_)
    rintro _ _ ⟨rfl, v4, hv4, rfl⟩
    generalize numR y3.2 = y4 at *
    repeat (first | refine GD ?_ | refine NW fun _ => ?_)
    refine WL.step rfl (OP.call (pre := [blk r [v4, .int .i64 _] 107, A]) rfl rfl (textR_ok r v4 y4.2 A hu hv4 (by omega) 16) PS rfl rfl ?_)
    rintro _ _ ⟨rfl, v5, hv5, rfl⟩
    generalize textR 16 y4.2 = y5 at *
    repeat (first | refine GD ?_ | refine NW fun _ => ?_)
    refine RD 3 4 (_) ?_
    refine VV 0 ?_; refine VV 1 ?_; refine VV 2 ?_
    refine WH.only 3 rfl rfl (by kernel_rfl) rfl (OP.store rfl rfl rfl rfl rfl rfl rfl UP rfl ⟨(fun h => nomatch h), ?_⟩)
    refine DN ?_
    repeat (first | refine GD ?_ | refine NW fun _ => ?_)
    exact ret2c rfl rfl rfl rfl rfl (HasCut.ent (n := 5) HC).1 ⟨_, ⟨rfl, v5, hv5, rfl⟩, II⟩
  · rw [if_neg hk]
    repeat (first | refine GD ?_ | refine NW fun _ => ?_)
    refine WL.step rfl (OP.call (pre := [blk r [v3, .int .i64 _] 107, A]) rfl rfl (numR_ok r v3 y3.2 A hu hv3 (by omega)) PS rfl rfl ?_)
    rintro _ _ ⟨rfl, v4, hv4, rfl⟩
    generalize numR y3.2 = y4 at *
    repeat (first | refine GD ?_ | refine NW fun _ => ?_)
    refine RD 3 4 (_) ?_
    refine VV 0 ?_; refine VV 1 ?_; refine VV 2 ?_
    refine WH.only 3 rfl rfl (by kernel_rfl) rfl (OP.store rfl rfl rfl rfl rfl rfl rfl UP rfl ⟨(fun h => nomatch h), ?_⟩)
    refine DN ?_
    repeat (first | refine GD ?_ | refine NW fun _ => ?_)
    exact ret2c rfl rfl rfl rfl rfl (HasCut.ent (n := 5) HC).1 ⟨_, ⟨rfl, v4, hv4, rfl⟩, II⟩
end Go.Proofs.YtkoakmaihcheaacDoor
