/- Contracts of functions of the given program, and plain laws on what they compute: parts of the proofs of laws. -/
import Derived.Test.YtkoakmaihcheaabDoorGLt
import Derived.Test.YtkoakmaihcheaabDoorF1

namespace Go.Proofs.YtkoakmaihcheaabDoor
open Go Go.GL

def member : ByteArray := ⟨#[109, 101, 109, 98, 101, 114]⟩
set_option maxRecDepth 10000 in
theorem wrong_ok (v c : Int) (h : c ≠ 0) : Triple G 36 [.int .i64 v, .int .i64 c] [] (Fault member v c) := by
  refine Triple.enter Tryd.func36 rfl (by decide) rfl Tryd.ntmps36 rfl (fun F => ?_)
  repeat (first | refine GO ?_ | refine NW fun _ => ?_)
  refine WL.step rfl (OP.call rfl rfl (wrap_ok _ _ _ h) PS rfl rfl ?_)
  rintro v M ⟨b, rfl, rfl⟩
  repeat (first | refine GO ?_ | refine NW fun _ => ?_)
  exact ret1 rfl ⟨_, ⟨_, rfl, rfl⟩, Imp.refl _⟩

set_option maxRecDepth 10000 in
theorem there_ro (v : Int) : RO G 35 [.int .i64 v] (fun _ => True) (.bool (decide (0 ≤ v ∧ v < 4))) := by
  refine RO.enter Tryd.func35 rfl (by decide) rfl Tryd.ntmps35 rfl (fun A _ hA => ?_) (fun _ _ _ h => h)
  repeat (first | refine GO ?_ | refine NW fun _ => ?_)
  refine ret1 rfl ⟨?_, List.Mem.head _⟩
  simp

def vI (n : Int) : Value := .int .i64 n
def bools (f : List Bool) : List Value := f.map Value.bool
/-- the first volumes, one by one -/
def newM : List Int → List Bool → Except (Int × Int) (List Bool)
  | [], f => .ok f
  | v :: r, f => if 0 ≤ v ∧ v < 4 then (if f.getD v.toNat false = true then .error (v, 1) else newM r (f.set v.toNat true)) else .error (v, 5)
theorem newM_cons (v : Int) (r : List Int) (f : List Bool) : newM (v :: r) f = if 0 ≤ v ∧ v < 4 then (if f.getD v.toNat false = true then .error (v, 1) else newM r (f.set v.toNat true)) else .error (v, 5) := rfl
def NewPost (l : List Int) (v : Value) (E : List Assn) : Prop :=
  match newM l [false, false, false, false] with
  | .ok f => ∃ p, v = .tuple #[.pointer (some ⟨p, 0, none⟩), .nilIface] ∧ E = [blk p (bools f ++ [.slice none 0 0]) 69]
  | .error (at_, c) => ∃ e, v = .tuple #[.pointer none, e] ∧ Fault member at_ c e E

set_option maxRecDepth 10000 in
theorem new_ok (a : Option Addr) (n c : Nat) (l : List Int) (hn : n < 1000000) : RT G 9 [.slice a n c] (readS a n 1 (l.map vI)) (NewPost l) := by
  refine RT.enter Tryd.func9 rfl (by decide) rfl Tryd.ntmps9 rfl (fun A hu hA => ?_)
  have hM : ∀ {L}, A ∈ L → Ent L (readS a n 1 (l.map vI)) := fun m => Ent.mem m hu hA
  refine WC.fact (Ent.len (hM MM)) (fun hlen => ?_)
  have hlen : l.length = n := by simpa using hlen
  repeat (first | refine GO ?_ | refine NW fun _ => ?_)
  rename_i p
  refine WC.loop (σ := Nat × List Bool) (fun s => s.1 ≤ n ∧ s.2.length = 4 ∧ newM (l.drop s.1) s.2 = newM l [false, false, false, false])
    (fun s => [(4, .val (.pointer (some ⟨p, 0, none⟩))), (9, .val (.slice a n c)), (10, .val (.int .i64 n)), (11, .val (.int .i64 s.1))])
    (fun s => [blk p (bools s.2 ++ [.slice none 0 0]) 69, A]) (fun s => n - s.1) (0, [false, false, false, false]) ⟨Nat.zero_le _, rfl, rfl⟩ ⟨rfl, rfl, rfl, rfl, trivial⟩ (Imp.refl _) ?_
  rintro ⟨k, f⟩ ⟨hk, hf, hm⟩
  dsimp only at hk hf hm ⊢
  obtain ⟨f0, f1, f2, f3, rfl⟩ : ∃ f0 f1 f2 f3, f = [f0, f1, f2, f3] := by
    match f, hf with
    | [f0, f1, f2, f3], _ => exact ⟨f0, f1, f2, f3, rfl⟩
  repeat (first | refine GO ?_ | refine NW fun _ => ?_)
  refine WC.cond rfl (fun hb => ?_) (fun hb => ?_)
  · have hb : k < n := by simpa using hb
    repeat (first | refine GO ?_ | refine NW fun _ => ?_)
    refine WL.fact (Ent.some (hM MM) (by omega)) ?_
    rintro ⟨b, off, rfl⟩
    have hlk : k < l.length := by omega
    repeat (first | refine GO ?_ | refine NW fun _ => ?_)
    refine WL.step rfl (OP.load1 (v := .int .i64 l[k]) rfl rfl rfl rfl (Ent.elem (hM MM) rfl (by simp [vI, hlk])) rfl rfl ?_)
    repeat (first | refine GO ?_ | refine NW fun _ => ?_)
    have hdrop : l.drop k = l[k] :: l.drop (k + 1) := List.drop_eq_getElem_cons hlk
    generalize hv : l[k] = v at *
    rw [hdrop, newM_cons] at hm
    refine WL.step rfl (OP.callRO rfl rfl (there_ro _) (fun _ _ => trivial) rfl rfl ?_)
    repeat (first | refine GO ?_ | refine NW fun _ => ?_)
    refine WC.cond rfl (fun hb1 => ?_) (fun hb1 => ?_)
    · have h1 : ¬ (0 ≤ v ∧ v < 4) := by intro h; simp [h] at hb1
      rw [if_neg h1] at hm
      repeat (first | refine GO ?_ | refine NW fun _ => ?_)
      refine WL.step rfl (OP.call (pre := []) (F := _) rfl rfl (wrong_ok _ _ (by decide)) (Imp.refl _) rfl rfl ?_)
      rintro v' E ⟨b', rfl, rfl⟩
      repeat (first | refine GO ?_ | refine NW fun _ => ?_)
      refine ret2 rfl rfl ⟨[_], ?_, II⟩
      unfold NewPost
      rw [← hm]
      exact ⟨_, rfl, ⟨_, rfl, rfl⟩⟩
    · have h1 : 0 ≤ v ∧ v < 4 := by simpa using hb1
      rw [if_pos h1] at hm
      obtain rfl | rfl | rfl | rfl : v = 0 ∨ v = 1 ∨ v = 2 ∨ v = 3 := by omega
      all_goals
        repeat (first | refine GO ?_ | refine NW fun _ => ?_)
        refine WC.cond rfl (fun hb2 => ?_) (fun hb2 => ?_)
        · subst hb2
          replace hm := hm.symm.trans (if_pos rfl)
          repeat (first | refine GO ?_ | refine NW fun _ => ?_)
          refine WL.step rfl (OP.call (pre := []) (F := _) rfl rfl (wrong_ok _ _ (by decide)) (Imp.refl _) rfl rfl ?_)
          rintro v' E ⟨b', rfl, rfl⟩
          repeat (first | refine GO ?_ | refine NW fun _ => ?_)
          refine ret2 rfl rfl ⟨[_], ?_, II⟩
          unfold NewPost
          rw [hm]
          exact ⟨_, rfl, ⟨_, rfl, rfl⟩⟩
        · subst hb2
          replace hm := hm.symm.trans (if_neg (by simp))
          repeat (first | refine GO ?_ | refine NW fun _ => ?_)
          exact ⟨(k + 1, _), ⟨by omega, rfl, hm.symm⟩, by dsimp only; omega, ⟨rfl, rfl, rfl, rfl, trivial⟩, Imp.refl _⟩
  · have hb : k = n := by simp at hb; omega
    subst hb
    repeat (first | refine GO ?_ | refine NW fun _ => ?_)
    refine ret2 rfl rfl ⟨[_], ?_, II⟩
    unfold NewPost
    rw [← hm, List.drop_eq_nil_of_le (by omega)]
    exact ⟨_, rfl, rfl⟩
end Go.Proofs.YtkoakmaihcheaabDoor
