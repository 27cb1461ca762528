/- Contracts of functions of the given program, and plain laws on what they compute: parts of the proofs of laws. -/
import Derived.Test.YtkoakmaihcheaabDoorGLt
import Derived.Test.YtkoakmaihcheaabDoorP1
import Derived.Test.YtkoakmaihcheaabDoorQ2

namespace Go.Proofs.YtkoakmaihcheaabDoor
open Go Go.GL

def bV (b : Bool) : Value := .int .i64 (bI b)
def ints4 (f : List Bool) : List Value := f.map bV
def refR (p : Nat) (a : Option Addr) (cap : Nat) (f : List Bool) (ch : List Ch) : Assn := fun h => cellsAt p 0 (ints4 f ++ [.slice a ch.length cap]) h ∧ readS a ch.length 3 (encL ch) h
theorem up_refR (p : Nat) (a : Option Addr) (cap : Nat) (f : List Bool) (ch : List Ch) : Up (refR p a cap f ch) := up_and (up_cellsAt _ _ _) (up_readS _ _ _ _)
def refL (p : Nat) (a : Option Addr) (n cap : Nat) (f : List Bool) (ch : List Ch) : List Assn := [blk p (ints4 f ++ [.slice a n cap]) 91, ownS a n cap 94 3 (encL ch)]
set_option maxRecDepth 10000 in
theorem qin_ro (v : Int) : RO G 47 [.int .i64 v] (fun _ => True) (.bool (decide (0 ≤ v ∧ v < 4))) := by
  refine RO.enter Tryd.func47 rfl (by decide) rfl Tryd.ntmps47 rfl (fun A _ hA => ?_) (fun _ _ _ h => h)
  by_cases h0 : 0 ≤ v
  · by_cases h3 : v ≤ 3
    · repeat (first | refine GD ?_ | refine NW fun _ => ?_)
      exact ret1 rfl ⟨congrArg Value.bool (decide_eq_true (⟨h0, by omega⟩ : 0 ≤ v ∧ v < 4)).symm, MM⟩
    · repeat (first | refine GD ?_ | refine NW fun _ => ?_)
      exact ret1 rfl ⟨congrArg Value.bool (decide_eq_false (fun h : 0 ≤ v ∧ v < 4 => by omega)).symm, MM⟩
  · repeat (first | refine GD ?_ | refine NW fun _ => ?_)
    exact ret1 rfl ⟨congrArg Value.bool (decide_eq_false (fun h : 0 ≤ v ∧ v < 4 => by omega)).symm, MM⟩
def QNewPost (l : List Int) (v : Value) (E : List Assn) : Prop :=
  match newM l [false, false, false, false] with
  | .ok f => ∃ p, v = .tuple #[.pointer (some ⟨p, 0, none⟩), .int .i64 0, .int .i64 0] ∧ E = [blk p (ints4 f ++ [.slice none 0 0]) 91]
  | .error (at_, c) => v = .tuple #[.pointer none, .int .i64 at_, .int .i64 c] ∧ E = []

set_option maxHeartbeats 4000000 in
set_option maxRecDepth 10000 in
theorem qnew_ok (a : Option Addr) (n c : Nat) (l : List Int) (hn : n < 1000000) : RT G 23 [.slice a n c] (readS a n 1 (l.map vI)) (QNewPost l) := by
  refine RT.enter Tryd.func23 rfl (by decide) rfl Tryd.ntmps23 rfl (fun A hu hA => ?_)
  have hM : ∀ {L}, A ∈ L → Ent L (readS a n 1 (l.map vI)) := fun m => Ent.mem m hu hA
  refine WC.fact (Ent.len (hM MM)) (fun hlen => ?_)
  have hlen : l.length = n := by simpa using hlen
  repeat (first | refine GO ?_ | refine NW fun _ => ?_)
  rename_i p
  refine WC.loop (σ := Nat × List Bool) (fun s => s.1 ≤ n ∧ s.2.length = 4 ∧ newM (l.drop s.1) s.2 = newM l [false, false, false, false])
    (fun s => [(0, .val (.slice a n c)), (5, .val (.pointer (some ⟨p, 0, none⟩))), (10, .val (.int .i64 n)), (11, .val (.int .i64 s.1))])
    (fun s => [blk p (ints4 s.2 ++ [.slice none 0 0]) 91, A]) (fun s => n - s.1) (0, [false, false, false, false]) ⟨Nat.zero_le _, rfl, rfl⟩ ⟨rfl, rfl, rfl, rfl, trivial⟩ (Imp.refl _) ?_
  rintro ⟨k, f⟩ ⟨hk, hf, hm⟩
  dsimp only at hk hf hm ⊢
  obtain ⟨f0, f1, f2, f3, rfl⟩ := four hf
  by_cases hb : k < n
  rotate_left
  · have hb : k = n := by omega
    subst hb
    repeat (first | refine GD ?_ | refine NW fun _ => ?_)
    refine ret3 rfl rfl rfl ⟨[_], ?_, II⟩
    unfold QNewPost
    rw [← hm, List.drop_eq_nil_of_le (by omega)]
    exact ⟨_, rfl, rfl⟩
  have hlk : k < l.length := by omega
  have hdrop : l.drop k = l[k] :: l.drop (k + 1) := List.drop_eq_getElem_cons hlk
  have hel : (l.map vI)[k * 1]? = some (.int .i64 l[k]) := by simp [vI, hlk]
  generalize l[k] = v at *
  rw [hdrop, newM_cons] at hm
  repeat (first | refine GD ?_ | refine NW fun _ => ?_)
  refine WL.fact (Ent.some (hM MM) (by omega)) ?_
  rintro ⟨b, off, rfl⟩
  repeat (first | refine GD ?_ | refine NW fun _ => ?_)
  refine WL.step rfl (OP.load1 (v := .int .i64 v) rfl rfl rfl rfl (Ent.elem (hM MM) rfl hel) rfl rfl ?_)
  repeat (first | refine GD ?_ | refine NW fun _ => ?_)
  refine WL.step rfl (OP.callRO rfl rfl (qin_ro _) (fun _ _ => trivial) rfl rfl ?_)
  by_cases h1 : 0 ≤ v ∧ v < 4
  rotate_left
  · rw [decide_eq_false h1]
    rw [if_neg h1] at hm
    repeat (first | refine GD ?_ | refine NW fun _ => ?_)
    refine RD 7 7 ([A]) ?_
    refine WW 0 ?_; refine WW 1 ?_; refine WW 2 ?_
    refine VL 3 (.int .i64 v) rfl rfl rfl rfl (.inl ⟨rfl, Ent.elem (i := k * 1) (hM MM) rfl hel⟩) ?_
    refine WW 4 ?_; refine WW 5 ?_; refine WW 6 ?_
    refine DN ?_
    repeat (first | refine GD ?_ | refine NW fun _ => ?_)
    refine ret3 rfl rfl rfl ⟨[], ?_, II⟩
    unfold QNewPost
    rw [← hm]
    exact ⟨rfl, rfl⟩
  rw [decide_eq_true h1]
  rw [if_pos h1] at hm
  obtain rfl | rfl | rfl | rfl : v = 0 ∨ v = 1 ∨ v = 2 ∨ v = 3 := by omega
  · repeat (first | refine GD ?_ | refine NW fun _ => ?_)
    refine RD 10 10 ([blk p (ints4 [f0, f1, f2, f3] ++ [.slice none 0 0]) 91, A]) ?_
    refine WW 0 ?_; refine WW 1 ?_; refine WW 2 ?_; refine WW 3 ?_
    refine VL 4 (.int .i64 0) rfl rfl rfl rfl (.inl ⟨rfl, Ent.elem (i := k * 1) (hM MM) rfl hel⟩) ?_
    refine WW 5 ?_; refine WW 6 ?_; refine WW 7 ?_; refine WW 8 ?_; refine WW 9 ?_
    refine DN ?_
    cases f0
    · replace hm := hm.symm.trans (if_neg (by simp))
      repeat (first | refine GD ?_ | refine NW fun _ => ?_)
      refine RD 8 9 ([A]) ?_
      refine WW 0 ?_; refine WW 1 ?_; refine WW 2 ?_; refine WW 3 ?_
      refine VL 4 (.int .i64 0) rfl rfl rfl rfl (.inl ⟨rfl, Ent.elem (i := k * 1) (hM MM) rfl hel⟩) ?_
      refine WW 5 ?_; refine WW 6 ?_; refine WW 7 ?_
      refine WH.only 8 rfl rfl (by kernel_rfl) rfl (OP.store rfl rfl rfl rfl rfl rfl rfl UP rfl ⟨(fun h => nomatch h), ?_⟩)
      refine DN ?_
      repeat (first | refine GD ?_ | refine NW fun _ => ?_)
      exact ⟨(k + 1, _), ⟨by omega, rfl, hm.symm⟩, by dsimp only; omega, ⟨rfl, rfl, rfl, rfl, trivial⟩, Imp.refl _⟩
    · replace hm := hm.symm.trans (if_pos rfl)
      repeat (first | refine GD ?_ | refine NW fun _ => ?_)
      refine RD 7 7 ([A]) ?_
      refine WW 0 ?_; refine WW 1 ?_; refine WW 2 ?_
      refine VL 3 (.int .i64 0) rfl rfl rfl rfl (.inl ⟨rfl, Ent.elem (i := k * 1) (hM MM) rfl hel⟩) ?_
      refine WW 4 ?_; refine WW 5 ?_; refine WW 6 ?_
      refine DN ?_
      repeat (first | refine GD ?_ | refine NW fun _ => ?_)
      refine ret3 rfl rfl rfl ⟨[], ?_, II⟩
      unfold QNewPost
      rw [hm]
      exact ⟨rfl, rfl⟩
  · repeat (first | refine GD ?_ | refine NW fun _ => ?_)
    refine RD 10 10 ([blk p (ints4 [f0, f1, f2, f3] ++ [.slice none 0 0]) 91, A]) ?_
    refine WW 0 ?_; refine WW 1 ?_; refine WW 2 ?_; refine WW 3 ?_
    refine VL 4 (.int .i64 1) rfl rfl rfl rfl (.inl ⟨rfl, Ent.elem (i := k * 1) (hM MM) rfl hel⟩) ?_
    refine WW 5 ?_; refine WW 6 ?_; refine WW 7 ?_; refine WW 8 ?_; refine WW 9 ?_
    refine DN ?_
    cases f1
    · replace hm := hm.symm.trans (if_neg (by simp))
      repeat (first | refine GD ?_ | refine NW fun _ => ?_)
      refine RD 8 9 ([A]) ?_
      refine WW 0 ?_; refine WW 1 ?_; refine WW 2 ?_; refine WW 3 ?_
      refine VL 4 (.int .i64 1) rfl rfl rfl rfl (.inl ⟨rfl, Ent.elem (i := k * 1) (hM MM) rfl hel⟩) ?_
      refine WW 5 ?_; refine WW 6 ?_; refine WW 7 ?_
      refine WH.only 8 rfl rfl (by kernel_rfl) rfl (OP.store rfl rfl rfl rfl rfl rfl rfl UP rfl ⟨(fun h => nomatch h), ?_⟩)
      refine DN ?_
      repeat (first | refine GD ?_ | refine NW fun _ => ?_)
      exact ⟨(k + 1, _), ⟨by omega, rfl, hm.symm⟩, by dsimp only; omega, ⟨rfl, rfl, rfl, rfl, trivial⟩, Imp.refl _⟩
    · replace hm := hm.symm.trans (if_pos rfl)
      repeat (first | refine GD ?_ | refine NW fun _ => ?_)
      refine RD 7 7 ([A]) ?_
      refine WW 0 ?_; refine WW 1 ?_; refine WW 2 ?_
      refine VL 3 (.int .i64 1) rfl rfl rfl rfl (.inl ⟨rfl, Ent.elem (i := k * 1) (hM MM) rfl hel⟩) ?_
      refine WW 4 ?_; refine WW 5 ?_; refine WW 6 ?_
      refine DN ?_
      repeat (first | refine GD ?_ | refine NW fun _ => ?_)
      refine ret3 rfl rfl rfl ⟨[], ?_, II⟩
      unfold QNewPost
      rw [hm]
      exact ⟨rfl, rfl⟩
  · repeat (first | refine GD ?_ | refine NW fun _ => ?_)
    refine RD 10 10 ([blk p (ints4 [f0, f1, f2, f3] ++ [.slice none 0 0]) 91, A]) ?_
    refine WW 0 ?_; refine WW 1 ?_; refine WW 2 ?_; refine WW 3 ?_
    refine VL 4 (.int .i64 2) rfl rfl rfl rfl (.inl ⟨rfl, Ent.elem (i := k * 1) (hM MM) rfl hel⟩) ?_
    refine WW 5 ?_; refine WW 6 ?_; refine WW 7 ?_; refine WW 8 ?_; refine WW 9 ?_
    refine DN ?_
    cases f2
    · replace hm := hm.symm.trans (if_neg (by simp))
      repeat (first | refine GD ?_ | refine NW fun _ => ?_)
      refine RD 8 9 ([A]) ?_
      refine WW 0 ?_; refine WW 1 ?_; refine WW 2 ?_; refine WW 3 ?_
      refine VL 4 (.int .i64 2) rfl rfl rfl rfl (.inl ⟨rfl, Ent.elem (i := k * 1) (hM MM) rfl hel⟩) ?_
      refine WW 5 ?_; refine WW 6 ?_; refine WW 7 ?_
      refine WH.only 8 rfl rfl (by kernel_rfl) rfl (OP.store rfl rfl rfl rfl rfl rfl rfl UP rfl ⟨(fun h => nomatch h), ?_⟩)
      refine DN ?_
      repeat (first | refine GD ?_ | refine NW fun _ => ?_)
      exact ⟨(k + 1, _), ⟨by omega, rfl, hm.symm⟩, by dsimp only; omega, ⟨rfl, rfl, rfl, rfl, trivial⟩, Imp.refl _⟩
    · replace hm := hm.symm.trans (if_pos rfl)
      repeat (first | refine GD ?_ | refine NW fun _ => ?_)
      refine RD 7 7 ([A]) ?_
      refine WW 0 ?_; refine WW 1 ?_; refine WW 2 ?_
      refine VL 3 (.int .i64 2) rfl rfl rfl rfl (.inl ⟨rfl, Ent.elem (i := k * 1) (hM MM) rfl hel⟩) ?_
      refine WW 4 ?_; refine WW 5 ?_; refine WW 6 ?_
      refine DN ?_
      repeat (first | refine GD ?_ | refine NW fun _ => ?_)
      refine ret3 rfl rfl rfl ⟨[], ?_, II⟩
      unfold QNewPost
      rw [hm]
      exact ⟨rfl, rfl⟩
  · repeat (first | refine GD ?_ | refine NW fun _ => ?_)
    refine RD 10 10 ([blk p (ints4 [f0, f1, f2, f3] ++ [.slice none 0 0]) 91, A]) ?_
    refine WW 0 ?_; refine WW 1 ?_; refine WW 2 ?_; refine WW 3 ?_
    refine VL 4 (.int .i64 3) rfl rfl rfl rfl (.inl ⟨rfl, Ent.elem (i := k * 1) (hM MM) rfl hel⟩) ?_
    refine WW 5 ?_; refine WW 6 ?_; refine WW 7 ?_; refine WW 8 ?_; refine WW 9 ?_
    refine DN ?_
    cases f3
    · replace hm := hm.symm.trans (if_neg (by simp))
      repeat (first | refine GD ?_ | refine NW fun _ => ?_)
      refine RD 8 9 ([A]) ?_
      refine WW 0 ?_; refine WW 1 ?_; refine WW 2 ?_; refine WW 3 ?_
      refine VL 4 (.int .i64 3) rfl rfl rfl rfl (.inl ⟨rfl, Ent.elem (i := k * 1) (hM MM) rfl hel⟩) ?_
      refine WW 5 ?_; refine WW 6 ?_; refine WW 7 ?_
      refine WH.only 8 rfl rfl (by kernel_rfl) rfl (OP.store rfl rfl rfl rfl rfl rfl rfl UP rfl ⟨(fun h => nomatch h), ?_⟩)
      refine DN ?_
      repeat (first | refine GD ?_ | refine NW fun _ => ?_)
      exact ⟨(k + 1, _), ⟨by omega, rfl, hm.symm⟩, by dsimp only; omega, ⟨rfl, rfl, rfl, rfl, trivial⟩, Imp.refl _⟩
    · replace hm := hm.symm.trans (if_pos rfl)
      repeat (first | refine GD ?_ | refine NW fun _ => ?_)
      refine RD 7 7 ([A]) ?_
      refine WW 0 ?_; refine WW 1 ?_; refine WW 2 ?_
      refine VL 3 (.int .i64 3) rfl rfl rfl rfl (.inl ⟨rfl, Ent.elem (i := k * 1) (hM MM) rfl hel⟩) ?_
      refine WW 4 ?_; refine WW 5 ?_; refine WW 6 ?_
      refine DN ?_
      repeat (first | refine GD ?_ | refine NW fun _ => ?_)
      refine ret3 rfl rfl rfl ⟨[], ?_, II⟩
      unfold QNewPost
      rw [hm]
      exact ⟨rfl, rfl⟩
set_option maxHeartbeats 1000000 in
set_option maxRecDepth 10000 in
theorem qlast_ro (p : Nat) (a : Option Addr) (cap : Nat) (f : List Bool) (ch : List Ch) (hf : f.length = 4) (hs : ch.length < 1000000) :
    RO G 28 [.pointer (some ⟨p, 0, none⟩)] (refR p a cap f ch) (.int .i64 (lastM ch)) := by
  refine RO.enter Tryd.func28 rfl (by decide) rfl Tryd.ntmps28 rfl (fun A hu hA => ?_) (up_refR _ _ _ _ _)
  have hE1 : ∀ {L}, A ∈ L → Ent L (cellsAt p 0 (ints4 f ++ [.slice a ch.length cap])) := fun m => Ent.mem m hu fun k x => (hA k x).1
  have hE2 : ∀ {L}, A ∈ L → Ent L (readS a ch.length 3 (encL ch)) := fun m => Ent.mem m hu fun k x => (hA k x).2
  have hg : (ints4 f ++ [Value.slice a ch.length cap])[4]? = some (.slice a ch.length cap) := by
    obtain ⟨f0, f1, f2, f3, rfl⟩ := four hf; rfl
  repeat (first | refine GO ?_ | refine NW fun _ => ?_)
  refine WL.step rfl (OP.load1 (v := .slice a ch.length cap) rfl rfl rfl rfl (Ent.one (i := 4) (hE1 MM) hg) rfl rfl ?_)
  by_cases h0 : ch.length = 0
  · repeat (first | refine GD ?_ | refine NW fun _ => ?_)
    have : ch = [] := List.length_eq_zero_iff.1 h0
    subst this
    exact ret1 rfl ⟨rfl, MM⟩
  · repeat (first | refine GD ?_ | refine NW fun _ => ?_)
    refine WC.fact (Ent.some (hE2 MM) (by omega)) ?_
    rintro ⟨b, off, rfl⟩
    refine RD 14 14 ([A]) ?_
    refine WW 0 ?_; refine WW 1 ?_; refine WW 2 ?_
    refine VL 3 (.slice (some ⟨b, off, none⟩) ch.length cap) rfl rfl rfl rfl (.inl ⟨rfl, Ent.one (i := 4) (hE1 MM) hg⟩) ?_
    refine WW 4 ?_; refine WW 5 ?_; refine WW 6 ?_
    refine VL 7 (.slice (some ⟨b, off, none⟩) ch.length cap) rfl rfl rfl rfl (.inl ⟨rfl, Ent.one (i := 4) (hE1 MM) hg⟩) ?_
    refine WW 8 ?_; refine WW 9 ?_; refine WW 10 ?_; refine WW 11 ?_
    refine VL 12 (.int .i64 (ch[ch.length - 1]'(by omega)).1) rfl rfl rfl rfl (.inl ⟨rfl, by rw [show ((ch.length : Int) - 1).toNat = ch.length - 1 from by omega]; exact Ent.elem (i := (ch.length - 1) * 3 + 0) (hE2 MM) rfl (encL_get _ _ _ (by omega) (by decide))⟩) ?_
    refine WW 13 ?_
    refine DN ?_
    repeat (first | refine GO ?_ | refine NW fun _ => ?_)
    refine ret1 rfl ⟨?_, MM⟩
    unfold lastM
    rw [List.getLast?_eq_getElem?, List.getElem?_eq_getElem (by omega)]
set_option maxHeartbeats 2000000 in
set_option maxRecDepth 10000 in
theorem qhas_ro (p : Nat) (a : Option Addr) (cap : Nat) (f : List Bool) (ch : List Ch) (v m : Int) (hf : f.length = 4) (hv : 0 ≤ v ∧ v < 4) (hs : ch.length < 1000000) :
    RO G 49 [.pointer (some ⟨p, 0, none⟩), .int .i64 v, .int .i64 m] (refR p a cap f ch) (.bool (hasQ f ch v m)) := by
  refine RO.enter Tryd.func49 rfl (by decide) rfl Tryd.ntmps49 rfl (fun A hu hA => ?_) (up_refR _ _ _ _ _)
  have hE1 : ∀ {L}, A ∈ L → Ent L (cellsAt p 0 (ints4 f ++ [.slice a ch.length cap])) := fun m => Ent.mem m hu fun k x => (hA k x).1
  have hE2 : ∀ {L}, A ∈ L → Ent L (readS a ch.length 3 (encL ch)) := fun m => Ent.mem m hu fun k x => (hA k x).2
  have hg : (ints4 f ++ [Value.slice a ch.length cap])[4]? = some (.slice a ch.length cap) := by
    obtain ⟨f0, f1, f2, f3, rfl⟩ := four hf; rfl
  have hgv : (ints4 f ++ [Value.slice a ch.length cap])[v.toNat]? = some (bV (f.getD v.toNat false)) := by
    obtain ⟨f0, f1, f2, f3, rfl⟩ := four hf
    obtain rfl | rfl | rfl | rfl : v = 0 ∨ v = 1 ∨ v = 2 ∨ v = 3 := by omega
    all_goals rfl
  obtain ⟨hv0, hv1⟩ := hv
  repeat (first | refine GO ?_ | refine NW fun _ => ?_)
  refine WL.step rfl (OP.load1 (v := bV (f.getD v.toNat false)) rfl rfl rfl rfl (by rw [show 0 + 0 + v.toNat * 1 = 0 + v.toNat by omega]; exact Ent.one (i := v.toNat) (hE1 MM) hgv) rfl rfl ?_)
  have hdec : decide (bI (f.getD v.toNat false) = 1) = f.getD v.toNat false := by cases f.getD v.toNat false <;> rfl
  unfold bV
  repeat (first | refine GO ?_ | refine NW fun _ => ?_)
  rw [hdec]
  refine WL.step rfl (OP.load1 (v := .slice a ch.length cap) rfl rfl rfl rfl (Ent.one (i := 4) (hE1 MM) hg) rfl rfl ?_)
  repeat (first | refine GO ?_ | refine NW fun _ => ?_)
  refine WC.loop (σ := Nat) (fun k => k ≤ ch.length)
    (fun k => [(0, .val (.pointer (some ⟨p, 0, none⟩))), (1, .val (.int .i64 v)), (2, .val (.int .i64 m)), (7, .val (.bool (hasQ f (ch.take k) v m))), (20, .val (.int .i64 ch.length)), (21, .val (.int .i64 k))])
    (fun _ => [A]) (fun k => ch.length - k) 0 (Nat.zero_le _) ⟨rfl, rfl, rfl, rfl, rfl, rfl, trivial⟩ (Imp.refl _) ?_
  rintro k hk
  by_cases hlt : k < ch.length
  rotate_left
  · rw [List.take_of_length_le (by omega)]
    repeat (first | refine GD ?_ | refine NW fun _ => ?_)
    exact ret1 rfl ⟨rfl, MM⟩
  have hsn := hasQ_snoc f (ch.take k) ch[k] v m
  rw [← List.take_succ_eq_append_getElem hlt] at hsn
  have hge : ∀ j, j < 3 → (encL ch)[k * 3 + j]? = (encC ch[k])[j]? := fun j hj => encL_get _ _ _ hlt hj
  generalize ch[k] = c at *
  obtain ⟨cm, cv, cg⟩ := c
  dsimp only at hsn
  repeat (first | refine GD ?_ | refine NW fun _ => ?_)
  refine WL.step rfl (OP.load1 (v := .slice a ch.length cap) rfl rfl rfl rfl (Ent.one (i := 4) (hE1 MM) hg) rfl rfl ?_)
  refine WL.fact (Ent.some (hE2 MM) (by omega)) ?_
  rintro ⟨b, off, rfl⟩
  repeat (first | refine GD ?_ | refine NW fun _ => ?_)
  refine WL.step rfl (OP.load1 (v := .int .i64 cv) rfl rfl rfl rfl (Ent.elem (i := k * 3 + 1) (hE2 MM) rfl (hge 1 (by decide))) rfl rfl ?_)
  by_cases h1 : cv = v
  rotate_left
  · rw [if_neg (fun h => h1 h.1)] at hsn
    repeat (first | refine GD ?_ | refine NW fun _ => ?_)
    exact ⟨k + 1, by omega, by omega, ⟨rfl, rfl, rfl, by rw [hsn]; rfl, rfl, rfl, trivial⟩, Imp.refl _⟩
  repeat (first | refine GD ?_ | refine NW fun _ => ?_)
  refine WL.guardT rfl rfl rfl rfl (OP.load1 (v := .slice (some ⟨b, off, none⟩) ch.length cap) rfl rfl rfl rfl (Ent.one (i := 4) (hE1 MM) hg) rfl rfl ?_)
  repeat (first | refine GD ?_ | refine NW fun _ => ?_)
  refine WL.guardT rfl rfl rfl rfl (OP.load1 (v := .int .i64 cm) rfl rfl rfl rfl (Ent.elem (i := k * 3 + 0) (hE2 MM) rfl (hge 0 (by decide))) rfl rfl ?_)
  by_cases h2 : cm ≤ m
  rotate_left
  · rw [if_neg (fun h => h2 h.2)] at hsn
    repeat (first | refine GD ?_ | refine NW fun _ => ?_)
    exact ⟨k + 1, by omega, by omega, ⟨rfl, rfl, rfl, by rw [hsn]; rfl, rfl, rfl, trivial⟩, Imp.refl _⟩
  rw [if_pos ⟨h1, h2⟩] at hsn
  repeat (first | refine GD ?_ | refine NW fun _ => ?_)
  refine WL.step rfl (OP.load1 (v := .slice (some ⟨b, off, none⟩) ch.length cap) rfl rfl rfl rfl (Ent.one (i := 4) (hE1 MM) hg) rfl rfl ?_)
  repeat (first | refine GD ?_ | refine NW fun _ => ?_)
  refine WL.step rfl (OP.load1 (v := .bool cg) rfl rfl rfl rfl (Ent.elem (i := k * 3 + 2) (hE2 MM) rfl (hge 2 (by decide))) rfl rfl ?_)
  repeat (first | refine GD ?_ | refine NW fun _ => ?_)
  exact ⟨k + 1, by omega, by omega, ⟨rfl, rfl, rfl, by rw [hsn]; rfl, rfl, rfl, trivial⟩, Imp.refl _⟩
end Go.Proofs.YtkoakmaihcheaabDoor
