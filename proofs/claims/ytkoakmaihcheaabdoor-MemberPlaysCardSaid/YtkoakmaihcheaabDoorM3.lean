/- Contracts of functions of the given program, and plain laws on what they compute: parts of the proofs of laws. -/
import Derived.Test.YtkoakmaihcheaabDoorGLt
import Derived.Test.YtkoakmaihcheaabDoorM2

namespace Go.Proofs.YtkoakmaihcheaabDoor
open Go Go.GL

/-- the places at which a set has 'true' -/
def listM (f : List Bool) : List Int := ((List.range f.length).filter (fun i => f.getD i false)).map Int.ofNat
def listP (f : List Bool) (k : Nat) : List Int := ((List.range k).filter (fun i => f.getD i false)).map Int.ofNat
theorem listP_succ (f : List Bool) (k : Nat) : listP f (k + 1) = if f.getD k false = true then listP f k ++ [(k : Int)] else listP f k := by
  unfold listP
  rw [List.range_succ, List.filter_append, List.map_append]
  rw [List.filter_cons, List.filter_nil]
  split <;> simp
theorem listP_len (f : List Bool) (k : Nat) : (listP f k).length ≤ k := by
  unfold listP
  rw [List.length_map]
  exact Nat.le_trans (List.length_filter_le _ _) (by simp)
/-- a fresh slice of whole numbers -/
def Ints (l : List Int) (v : Value) (E : List Assn) : Prop := ∃ a cap, v = .slice a l.length cap ∧ E = [ownS a l.length cap 3 1 (l.map vI)]

set_option maxRecDepth 10000 in
theorem list_ok (f : List Bool) (hf : f.length = 4) : RT G 39 [.agg (bools f).toArray] (fun _ => True) (Ints (listM f)) := by
  obtain ⟨f0, f1, f2, f3, rfl⟩ := four hf
  refine RT.enter Tryd.func39 rfl (by decide) rfl Tryd.ntmps39 rfl (fun A hu hA => ?_)
  repeat (first | refine GO ?_ | refine NW fun _ => ?_)
  refine WC.imp (Imp.trans Imp.drop (Imp.nilS 3 1)) ?_
  refine WC.loop (σ := Nat × Nat × Option Addr × Nat × List Int) (fun s => s.1 ≤ 4 ∧ s.2.2.2.2 = listP [f0, f1, f2, f3] s.1 ∧ s.2.1 = s.2.2.2.2.length)
    (fun s => [(3, .val (.slice s.2.2.1 s.2.1 s.2.2.2.1)), (6, .val (.agg #[.bool f0, .bool f1, .bool f2, .bool f3])), (7, .val (.int .i64 s.1))])
    (fun s => [ownS s.2.2.1 s.2.1 s.2.2.2.1 3 1 (s.2.2.2.2.map vI), A]) (fun s => 4 - s.1) (0, 0, none, 0, []) ⟨by simp, rfl, rfl⟩ ⟨rfl, rfl, rfl, trivial⟩ (Imp.refl _) ?_
  rintro ⟨k, n, a, cap, l⟩ ⟨hk, hl, hn⟩
  dsimp only at hk hl hn ⊢
  have hsucc := listP_succ [f0, f1, f2, f3] k
  have hlen := listP_len [f0, f1, f2, f3] k
  rw [← hl] at hsucc hlen
  obtain rfl | rfl | rfl | rfl | rfl : k = 0 ∨ k = 1 ∨ k = 2 ∨ k = 3 ∨ k = 4 := by omega
  rotate_left 4
  · repeat (first | refine GO ?_ | refine NW fun _ => ?_)
    exact ret1 rfl ⟨[_], ⟨a, cap, by rw [hn, hl]; rfl, by rw [hn, hl]; rfl⟩, Imp.refl _⟩
  all_goals
    repeat (first | refine GO ?_ | refine NW fun _ => ?_)
    refine WC.cond rfl (fun hb => ?_) (fun hb => ?_)
    · subst hb
      repeat (first | refine GO ?_ | refine NW fun _ => ?_)
      refine WL.step rfl (OP.append rfl rfl rfl rfl rfl rfl rfl rfl rfl P1 (Ent.own MM) rfl (by omega) (by omega) rfl rfl (fun a' cap' => ?_))
      repeat (first | refine GO ?_ | refine NW fun _ => ?_)
      exact ⟨(_, _, a', cap', l ++ [_]), ⟨by simp, hsucc.symm, by simp [hn]⟩, by simp, ⟨rfl, rfl, rfl, trivial⟩, by rw [List.map_append]; exact II⟩
    · subst hb
      repeat (first | refine GO ?_ | refine NW fun _ => ?_)
      exact ⟨(_, _, a, cap, l), ⟨by simp, hsucc.symm, hn⟩, by simp, ⟨rfl, rfl, rfl, trivial⟩, Imp.refl _⟩
end Go.Proofs.YtkoakmaihcheaabDoor
