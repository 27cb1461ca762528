/- Contracts of functions of the given program, and plain laws on what they compute: parts of the proofs of laws. -/
import Derived.Test.YtkoakmaihcheaabDoorGLt
import Derived.Test.YtkoakmaihcheaabDoorM10
import Derived.Test.YtkoakmaihcheaabDoorB1
import Derived.Test.YtkoakmaihcheaabDoorO1
namespace Go.Proofs.YtkoakmaihcheaabDoor
open Go Go.GL

inductive Inc : List Ch → Prop
  | nil : Inc []
  | snoc {ch : List Ch} {c : Ch} : Inc ch → lastM ch < c.1 → Inc (ch ++ [c])
theorem Inc.srt {ch : List Ch} (h : Inc ch) : Srt ch := by
  induction h with
  | nil => intro x hx; cases hx
  | snoc _ hl ih =>
    intro x hx
    rw [lastM_snoc]
    rcases List.mem_append.1 hx with hx | hx
    · have := ih x hx; omega
    · rw [List.mem_singleton.1 hx]; exact Int.le_refl _
theorem inc_put {f : List Bool} {ch : List Ch} {c : Ch} (h : Inc ch) : Inc (putCh f ch c) := by
  rcases putCh_cases f ch c with ⟨h1, h2⟩ | ⟨_, h2⟩
  · rw [h2]; exact .snoc h (put_none h1).2.1
  · rw [h2]; exact h
/-- does a volume belong at a marker? each change in turn -/
def hasQ (f : List Bool) (ch : List Ch) (v m : Int) : Bool := ch.foldl (fun ok c => if c.2.1 = v ∧ c.1 ≤ m then !c.2.2 else ok) (f.getD v.toNat false)
theorem hasQ_snoc (f : List Bool) (ch : List Ch) (c : Ch) (v m : Int) : hasQ f (ch ++ [c]) v m = if c.2.1 = v ∧ c.1 ≤ m then !c.2.2 else hasQ f ch v m := by
  unfold hasQ
  rw [List.foldl_append]
  rfl
theorem get_set (s : List Bool) (i j : Nat) (x : Bool) (hi : i < s.length) : (s.set i x).getD j false = if i = j then x else s.getD j false := by
  by_cases h : i = j
  · subst h; simp [List.getD, hi]
  · simp [List.getD, h]
theorem hasQ_at {f : List Bool} {ch : List Ch} (hi : Inc ch) (hv : Vols ch) (hf : f.length = 4) {v m : Int} (hv0 : 0 ≤ v ∧ v < 4) : hasQ f ch v m = (atM m f ch).getD v.toNat false := by
  induction hi with
  | nil => rfl
  | @snoc ch c h1 h2 ih =>
    have ih := ih (fun x hx => hv x (List.mem_append_left _ hx))
    have hc := hv c (List.mem_append_right _ (List.mem_singleton.2 rfl))
    rw [hasQ_snoc]
    by_cases hm : c.1 ≤ m
    · rw [atM_high (Inc.snoc h1 h2).srt (by rw [lastM_snoc]; exact hm), after_snoc]
      unfold step
      rw [get_set _ _ _ _ (by rw [after_length, hf]; omega)]
      rw [atM_high h1.srt (by omega)] at ih
      by_cases hvv : c.2.1 = v
      · rw [if_pos ⟨hvv, hm⟩, if_pos (by rw [hvv])]
      · rw [if_neg (fun h => hvv h.1), if_neg (by omega), ih]
    · rw [if_neg (fun h => hm h.2), ih, atM_low (.inl (by omega))]
/-- the volumes at a marker, one by one -/
def listQ (f : List Bool) (ch : List Ch) (m : Int) (k : Nat) : List Int := ((List.range k).filter (fun (i : Nat) => hasQ f ch (i : Int) m)).map Int.ofNat
theorem listQ_succ (f : List Bool) (ch : List Ch) (m : Int) (k : Nat) : listQ f ch m (k + 1) = if hasQ f ch (k : Int) m = true then listQ f ch m k ++ [(k : Int)] else listQ f ch m k := by
  unfold listQ
  rw [List.range_succ, List.filter_append, List.map_append]
  rw [List.filter_cons, List.filter_nil]
  split <;> simp
theorem listQ_at {f : List Bool} {ch : List Ch} (hi : Inc ch) (hv : Vols ch) (hf : f.length = 4) (m : Int) : listQ f ch m 4 = listM (atM m f ch) := by
  unfold listQ listM
  rw [atM_length, hf]
  congr 1
  apply List.filter_congr
  intro i hi4
  have hi4 := List.mem_range.1 hi4
  rw [hasQ_at hi hv hf ⟨by omega, by omega⟩]
  rfl
def bI (b : Bool) : Int := bif b then 1 else 0
theorem bits_sum (a b c d : Bool) : bitsM [a, b, c, d] = bI a + 2 * bI b + 4 * bI c + 8 * bI d := by
  cases a <;> cases b <;> cases c <;> cases d <;> decide
end Go.Proofs.YtkoakmaihcheaabDoor
