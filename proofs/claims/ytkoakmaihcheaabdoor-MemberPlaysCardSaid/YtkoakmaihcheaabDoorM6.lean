/- Contracts of functions of the given program, and plain laws on what they compute: parts of the proofs of laws. -/
import Derived.Test.YtkoakmaihcheaabDoorGLt
import Derived.Test.YtkoakmaihcheaabDoorM5

namespace Go.Proofs.YtkoakmaihcheaabDoor
open Go Go.GL

def grpL (p : Nat) (a : Option Addr) (n cap : Nat) (f : List Bool) (ch : List Ch) : List Assn := [blk p (bools f ++ [.slice a n cap]) 69, ownS a n cap 75 3 (encL ch)]
/-- what is wrong with a change -/
def putM (f : List Bool) (ch : List Ch) (c : Ch) : Option Int :=
  if ¬ (0 ≤ c.2.1 ∧ c.2.1 < 4) then some 5
  else if c.1 ≤ lastM ch then some 10
  else if 1152921504606846975 < c.1 then some 1
  else if (after f ch).getD c.2.1.toNat false ≠ c.2.2 then some 9
  else if 100 ≤ ch.length then some 6
  else none
def PutPost (p : Nat) (a : Option Addr) (cap : Nat) (f : List Bool) (ch : List Ch) (c : Ch) (v : Value) (M : List Assn) : Prop :=
  match putM f ch c with
  | some code => ∃ E, Fault member c.2.1 code v E ∧ M = E ++ grpL p a ch.length cap f ch
  | none => v = .nilIface ∧ ∃ a' cap', M = grpL p a' (ch.length + 1) cap' f (ch ++ [c])

set_option maxHeartbeats 4000000 in
set_option maxRecDepth 10000 in
theorem put_ok (p : Nat) (a : Option Addr) (cap : Nat) (f : List Bool) (ch : List Ch) (c : Ch) (hf : f.length = 4) (hv : Vols ch) (hs : ch.length ≤ 100) :
    Triple G 48 [.pointer (some ⟨p, 0, none⟩), .agg (encC c).toArray] (grpL p a ch.length cap f ch) (PutPost p a cap f ch c) := by
  refine Triple.enter Tryd.func48 rfl (by decide) rfl Tryd.ntmps48 rfl (fun F => ?_)
  obtain ⟨mark, vol, gone⟩ := c
  obtain ⟨f0, f1, f2, f3, rfl⟩ := four hf
  have hR : ∀ {L}, blk p (bools [f0, f1, f2, f3] ++ [.slice a ch.length cap]) 69 ∈ L → ownS a ch.length cap 75 3 (encL ch) ∈ L → Ent L (grpR p a cap [f0, f1, f2, f3] ch) := fun m1 m2 => Ent.and (Ent.whole m1) (Ent.own m2)
  refine WC.fact (Ent.ownLe (a := a) (n := ch.length) (cap := cap) (T := 75) (size := 3) (cs := encL ch) MM) (fun hc => ?_)
  repeat (first | refine GO ?_ | refine NW fun _ => ?_)
  refine WL.step rfl (OP.callRO rfl rfl (there_ro _) (fun _ _ => trivial) rfl rfl ?_)
  by_cases h1 : 0 ≤ vol ∧ vol < 4
  rotate_left
  · simp only [h1, decide_false]
    repeat (first | refine GO ?_ | refine NW fun _ => ?_)
    refine WL.step rfl (OP.call (pre := []) (F := _) rfl rfl (wrong_ok _ _ (by decide)) (Imp.refl _) rfl rfl ?_)
    rintro v' E ⟨b', rfl, rfl⟩
    repeat (first | refine GO ?_ | refine NW fun _ => ?_)
    refine ret1 rfl ⟨[_] ++ grpL p a ch.length cap _ ch, ?_, II⟩
    unfold PutPost putM
    rw [if_pos h1]
    exact ⟨_, ⟨_, rfl, rfl⟩, rfl⟩
  simp only [h1, and_self, decide_true]
  repeat (first | refine GO ?_ | refine NW fun _ => ?_)
  refine WC.regionD 6 6 _ rfl (by kernel_rfl) (Imp.refl _) ?_
  refine WW 0 ?_; refine WW 1 ?_; refine WW 2 ?_
  refine WH.only 3 rfl rfl (by kernel_rfl) rfl (OP.callRO rfl rfl (last_ro p a cap _ ch hf (by omega)) (hR MM MM) rfl rfl ⟨fun _ => Imp.refl _, ?_⟩)
  refine WW 4 ?_; refine WW 5 ?_
  refine DN ?_
  by_cases h2 : mark ≤ lastM ch
  · simp only [h2, decide_true]
    repeat (first | refine GO ?_ | refine NW fun _ => ?_)
    refine WL.step rfl (OP.call (pre := []) (F := _) rfl rfl (wrong_ok _ _ (by decide)) (Imp.refl _) rfl rfl ?_)
    rintro v' E ⟨b', rfl, rfl⟩
    repeat (first | refine GO ?_ | refine NW fun _ => ?_)
    refine ret1 rfl ⟨[_] ++ grpL p a ch.length cap _ ch, ?_, II⟩
    unfold PutPost putM
    rw [if_neg (not_not_intro h1), if_pos h2]
    exact ⟨_, ⟨_, rfl, rfl⟩, rfl⟩
  simp only [h2, decide_false]
  by_cases h3 : 1152921504606846975 < mark
  · repeat (first | refine GD ?_ | refine NW fun _ => ?_)
    repeat (first | refine GO ?_ | refine NW fun _ => ?_)
    refine WL.step rfl (OP.call (pre := []) (F := _) rfl rfl (wrong_ok _ _ (by decide)) (Imp.refl _) rfl rfl ?_)
    rintro v' E ⟨b', rfl, rfl⟩
    repeat (first | refine GO ?_ | refine NW fun _ => ?_)
    refine ret1 rfl ⟨[_] ++ grpL p a ch.length cap _ ch, ?_, II⟩
    unfold PutPost putM
    rw [if_neg (not_not_intro h1), if_neg h2, if_pos h3]
    exact ⟨_, ⟨_, rfl, rfl⟩, rfl⟩
  repeat (first | refine GD ?_ | refine NW fun _ => ?_)
  have hbeh := behind_ro p a cap [f0, f1, f2, f3] ch ch.length rfl hv (Nat.le_refl _) hc (by omega)
  rw [List.take_length] at hbeh
  obtain ⟨s0, s1, s2, s3, hsv⟩ := four (show (after [f0, f1, f2, f3] ch).length = 4 by rw [after_length]; rfl)
  rw [hsv] at hbeh
  refine WC.regionD 14 14 _ rfl (by kernel_rfl) (Imp.refl _) ?_
  refine WW 0 ?_; refine WW 1 ?_; refine WW 2 ?_; refine WW 3 ?_; refine WW 4 ?_; refine WW 5 ?_
  refine WW 7 ?_; refine WW 8 ?_
  refine WW 10 ?_; refine WW 11 ?_
  refine WH.only 6 rfl rfl (by kernel_rfl) rfl (OP.callRO rfl rfl hbeh (hR MM MM) rfl rfl ⟨fun _ => Imp.refl _, ?_⟩)
  obtain rfl | rfl | rfl | rfl : vol = 0 ∨ vol = 1 ∨ vol = 2 ∨ vol = 3 := by omega
  all_goals
    refine WW 9 ?_
    refine WW 12 ?_; refine WW 13 ?_
    refine DN ?_
    refine WC.cond rfl (fun hb => ?_) (fun hb => ?_)
    · repeat (first | refine GO ?_ | refine NW fun _ => ?_)
      refine WL.step rfl (OP.call (pre := []) (F := _) rfl rfl (wrong_ok _ _ (by decide)) (Imp.refl _) rfl rfl ?_)
      rintro v' E ⟨b', rfl, rfl⟩
      repeat (first | refine GO ?_ | refine NW fun _ => ?_)
      refine ret1 rfl ⟨[_] ++ grpL p a ch.length cap _ ch, ?_, II⟩
      unfold PutPost putM
      rw [if_neg (not_not_intro h1), if_neg h2, if_neg h3, if_pos]
      · exact ⟨_, ⟨_, rfl, rfl⟩, rfl⟩
      · rw [hsv]; simpa using hb
    · by_cases h5 : 100 ≤ ch.length
      · repeat (first | refine GD ?_ | refine NW fun _ => ?_)
        repeat (first | refine GO ?_ | refine NW fun _ => ?_)
        refine WL.step rfl (OP.call (pre := []) (F := _) rfl rfl (wrong_ok _ _ (by decide)) (Imp.refl _) rfl rfl ?_)
        rintro v' E ⟨b', rfl, rfl⟩
        repeat (first | refine GO ?_ | refine NW fun _ => ?_)
        refine ret1 rfl ⟨[_] ++ grpL p a ch.length cap _ ch, ?_, II⟩
        unfold PutPost putM
        rw [if_neg (not_not_intro h1), if_neg h2, if_neg h3, if_neg, if_pos h5]
        · exact ⟨_, ⟨_, rfl, rfl⟩, rfl⟩
        · rw [hsv]; simpa using hb
      · repeat (first | refine GD ?_ | refine NW fun _ => ?_)
        refine WC.regionD 8 11 [_, _] rfl (by kernel_rfl) (Imp.sub (L := _ :: _ :: _) (Picks.cons (Pick.here _ _) (Picks.cons (Pick.here _ _) (Picks.nil _)))) ?_
        refine WW 0 ?_; refine WW 1 ?_; refine WW 2 ?_; refine WW 3 ?_; refine WW 4 ?_; refine WW 5 ?_
        refine WH.only 6 rfl rfl (by kernel_rfl) rfl (OP.sliceLit rfl rfl rfl rfl rfl rfl rfl rfl (fun b' => ⟨fun _ => II, ?_⟩))
        refine WH.only 7 rfl rfl (by kernel_rfl) rfl (OP.append rfl rfl rfl rfl rfl rfl rfl rfl rfl P1 (Ent.own MM) rfl (by omega) (by omega) rfl rfl (fun a' cap' => ⟨fun _ => II, ?_⟩))
        refine WW 8 ?_; refine WW 9 ?_
        refine WH.only 10 rfl rfl (by kernel_rfl) rfl (OP.store rfl rfl rfl rfl rfl rfl rfl UP rfl ⟨(fun h => nomatch h), ?_⟩)
        refine DN ?_
        repeat (first | refine GO ?_ | refine NW fun _ => ?_)
        refine ret1 rfl ⟨[blk p (bools [f0, f1, f2, f3] ++ [.slice a' (ch.length + 1) cap']) 69, ownS a' (ch.length + 1) cap' 75 3 (encL ch ++ encC _)], ?_, II⟩
        unfold PutPost putM
        rw [if_neg (not_not_intro h1), if_neg h2, if_neg h3, if_neg, if_neg h5]
        · exact ⟨rfl, a', cap', by unfold grpL; rw [encL_snoc]⟩
        · rw [hsv]; simpa using hb
end Go.Proofs.YtkoakmaihcheaabDoor
