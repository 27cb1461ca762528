/- Contracts of functions of the given program, and plain laws on what they compute: parts of the proofs of laws. -/
import Derived.Test.YtkoakmaihcheaabDoorGLt
import Derived.Test.YtkoakmaihcheaabDoorM1

namespace Go.Proofs.YtkoakmaihcheaabDoor
open Go Go.GL

abbrev Ch := Int × Int × Bool
def encC (c : Ch) : List Value := [.int .i64 c.1, .int .i64 c.2.1, .bool c.2.2]
def encL (l : List Ch) : List Value := l.flatMap encC
theorem encL_length (l : List Ch) : (encL l).length = l.length * 3 := by
  induction l with
  | nil => rfl
  | cons c r ih => simp only [encL, List.flatMap_cons, List.length_append, List.length_cons] at *; rw [ih]; simp [encC]; omega
theorem encL_at (l : List Ch) (k : Nat) (h : k < l.length) : encC l[k] = ((encL l).drop (k * 3)).take 3 := by
  induction l generalizing k with
  | nil => simp at h
  | cons c r ih =>
    cases k with
    | zero => simp [encL, encC]
    | succ k =>
      have e : (k + 1) * 3 = 3 + k * 3 := by omega
      have := ih k (by simpa using h)
      simp only [encL, List.flatMap_cons, List.getElem_cons_succ] at *
      rw [this, e, ← List.drop_drop]
      simp [encC]
theorem encL_get (l : List Ch) (k j : Nat) (h : k < l.length) (hj : j < 3) : (encL l)[k * 3 + j]? = (encC l[k])[j]? := by
  rw [encL_at l k h, List.getElem?_take, if_pos hj, List.getElem?_drop]
theorem encL_snoc (l : List Ch) (c : Ch) : encL (l ++ [c]) = encL l ++ encC c := by simp [encL]
def step (s : List Bool) (c : Ch) : List Bool := s.set c.2.1.toNat (!c.2.2)
/-- who belongs behind some changes -/
def after (f : List Bool) (l : List Ch) : List Bool := l.foldl step f
theorem after_length (f : List Bool) (l : List Ch) : (after f l).length = f.length := by
  induction l generalizing f with
  | nil => rfl
  | cons c r ih => simp only [after, List.foldl_cons] at *; rw [ih]; simp [step]
theorem after_snoc (f : List Bool) (l : List Ch) (c : Ch) : after f (l ++ [c]) = step (after f l) c := by simp [after]
theorem four {f : List Bool} (h : f.length = 4) : ∃ a b c d, f = [a, b, c, d] := by
  match f, h with
  | [a, b, c, d], _ => exact ⟨a, b, c, d, rfl⟩
def grpR (p : Nat) (a : Option Addr) (cap : Nat) (f : List Bool) (ch : List Ch) : Assn := fun h => cellsAt p 0 (bools f ++ [.slice a ch.length cap]) h ∧ readS a ch.length 3 (encL ch) h
theorem up_grpR (p : Nat) (a : Option Addr) (cap : Nat) (f : List Bool) (ch : List Ch) : Up (grpR p a cap f ch) := fun h k l ⟨x, y⟩ => ⟨up_cellsAt _ _ _ h k l x, up_readS _ _ _ _ h k l y⟩
/-- the volumes of the changes are such -/
def Vols (ch : List Ch) : Prop := ∀ c ∈ ch, 0 ≤ c.2.1 ∧ c.2.1 < 4

set_option maxRecDepth 10000 in
theorem behind_ro (p : Nat) (a : Option Addr) (cap : Nat) (f : List Bool) (ch : List Ch) (many : Nat) (hf : f.length = 4) (hv : Vols ch) (hm : many ≤ ch.length) (hc : ch.length ≤ cap) (hs : ch.length < 1000000) :
    RO G 38 [.pointer (some ⟨p, 0, none⟩), .int .i64 many] (grpR p a cap f ch) (.agg (bools (after f (ch.take many))).toArray) := by
  refine RO.enter Tryd.func38 rfl (by decide) rfl Tryd.ntmps38 rfl (fun A hu hA => ?_) (up_grpR _ _ _ _ _)
  have hE1 : ∀ {L}, A ∈ L → Ent L (cellsAt p 0 (bools f ++ [.slice a ch.length cap])) := fun m => Ent.mem m hu fun k x => (hA k x).1
  have hE2 : ∀ {L}, A ∈ L → Ent L (readS a ch.length 3 (encL ch)) := fun m => Ent.mem m hu fun k x => (hA k x).2
  obtain ⟨f0, f1, f2, f3, rfl⟩ := four hf
  repeat (first | refine GO ?_ | refine NW fun _ => ?_)
  refine WL.step rfl (OP.loadA (l := bools [f0, f1, f2, f3]) rfl rfl rfl rfl (Ent.sub (i := 0) (hE1 MM) rfl) rfl rfl rfl ?_)
  repeat (first | refine GO ?_ | refine NW fun _ => ?_)
  refine WL.step rfl (OP.load1 (v := .slice a ch.length cap) rfl rfl rfl rfl (Ent.one (i := 4) (hE1 MM) rfl) rfl rfl ?_)
  repeat (first | refine GO ?_ | refine NW fun _ => ?_)
  rename_i r q
  refine WC.loop (σ := Nat) (fun k => k ≤ many)
    (fun k => [(4, .val (.pointer (some ⟨r, 0, none⟩))), (5, .val (.pointer (some ⟨q, 0, none⟩))), (17, .val (.slice a many cap)), (18, .val (.int .i64 many)), (19, .val (.int .i64 k))])
    (fun k => [blk q (bools (after [f0, f1, f2, f3] (ch.take k))) 66, blk r (bools [false, false, false, false]) 66, A]) (fun k => many - k) 0 (Nat.zero_le _) ⟨rfl, rfl, rfl, rfl, rfl, trivial⟩ (Imp.refl _) ?_
  rintro k hk
  obtain ⟨s0, s1, s2, s3, hsv⟩ := four (show (after [f0, f1, f2, f3] (ch.take k)).length = 4 by rw [after_length]; rfl)
  rw [hsv]
  repeat (first | refine GO ?_ | refine NW fun _ => ?_)
  refine WC.cond rfl (fun hb => ?_) (fun hb => ?_)
  · have hb : k < many := by simpa using hb
    have hkl : k < ch.length := by omega
    repeat (first | refine GO ?_ | refine NW fun _ => ?_)
    refine WL.fact (Ent.some (hE2 MM) (by omega)) ?_
    rintro ⟨b, off, rfl⟩
    repeat (first | refine GO ?_ | refine NW fun _ => ?_)
    refine WL.step rfl (OP.loadA (l := encC ch[k]) rfl rfl rfl rfl (Ent.elems (hE2 MM) rfl (encL_at _ _ hkl)) rfl rfl rfl ?_)
    have htake : ch.take (k + 1) = ch.take k ++ [ch[k]] := by rw [List.take_succ_eq_append_getElem hkl]
    obtain ⟨v0, v1⟩ := hv ch[k] (List.getElem_mem _)
    have hst := after_snoc [f0, f1, f2, f3] (ch.take k) ch[k]
    rw [← htake, hsv] at hst
    generalize ch[k] = c at *
    obtain ⟨cm, cv, cg⟩ := c
    dsimp only at v0 v1
    obtain rfl | rfl | rfl | rfl : cv = 0 ∨ cv = 1 ∨ cv = 2 ∨ cv = 3 := by omega
    all_goals
      repeat (first | refine GO ?_ | refine NW fun _ => ?_)
      exact ⟨k + 1, by omega, by omega, ⟨rfl, rfl, rfl, rfl, rfl, trivial⟩, by rw [hst]; exact II⟩
  · have hb : k = many := by simp at hb; omega
    subst hb
    repeat (first | refine GO ?_ | refine NW fun _ => ?_)
    refine retA (l := bools [s0, s1, s2, s3]) rfl rfl rfl rfl (HasCut.ent (n := 4) HC).1 ⟨?_, MM⟩
    rw [hsv]
end Go.Proofs.YtkoakmaihcheaabDoor
