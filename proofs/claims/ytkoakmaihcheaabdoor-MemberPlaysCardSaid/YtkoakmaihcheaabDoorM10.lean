/- Contracts of functions of the given program, and plain laws on what they compute: parts of the proofs of laws. -/
import Derived.Test.YtkoakmaihcheaabDoorGLt
import Derived.Test.YtkoakmaihcheaabDoorM9
namespace Go.Proofs.YtkoakmaihcheaabDoor
open Go Go.GL

/-- no change is later than the last one -/
def Srt (ch : List Ch) : Prop := ∀ c ∈ ch, c.1 ≤ lastM ch
def atM (m : Int) (f : List Bool) (ch : List Ch) : List Bool := after f (ch.take (cnt m ch))
theorem atM_length (m : Int) (f : List Bool) (ch : List Ch) : (atM m f ch).length = f.length := after_length _ _
theorem lastM_snoc (ch : List Ch) (c : Ch) : lastM (ch ++ [c]) = c.1 := by simp [lastM]
theorem put_none {f : List Bool} {ch : List Ch} {c : Ch} (h : putM f ch c = none) : (0 ≤ c.2.1 ∧ c.2.1 < 4) ∧ lastM ch < c.1 ∧ c.1 ≤ 1152921504606846975 ∧ (after f ch).getD c.2.1.toNat false = c.2.2 ∧ ch.length < 100 := by
  unfold putM at h
  split at h
  · cases h
  split at h
  · cases h
  split at h
  · cases h
  split at h
  · cases h
  split at h
  · cases h
  · rename_i h1 h2 h3 h4 h5
    exact ⟨Decidable.not_not.1 h1, by omega, by omega, Decidable.not_not.1 h4, by omega⟩
theorem putCh_cases (f : List Bool) (ch : List Ch) (c : Ch) : (putM f ch c = none ∧ putCh f ch c = ch ++ [c]) ∨ ((∃ x, putM f ch c = some x) ∧ putCh f ch c = ch) := by
  unfold putCh
  cases h : putM f ch c with
  | none => exact .inl ⟨rfl, rfl⟩
  | some x => exact .inr ⟨⟨x, rfl⟩, rfl⟩
theorem srt_put {f : List Bool} {ch : List Ch} {c : Ch} (h : Srt ch) : Srt (putCh f ch c) := by
  rcases putCh_cases f ch c with ⟨e, e2⟩ | ⟨_, e2⟩
  · rw [e2]
    intro x hx
    rw [lastM_snoc]
    have := (put_none e).2.1
    rcases List.mem_append.1 hx with hx | hx
    · have := h x hx; omega
    · simp only [List.mem_singleton] at hx; subst hx; omega
  · rw [e2]; exact h
theorem srt_stepO {f : List Bool} {ch : List Ch} {o : Op3} (h : Srt ch) : Srt (stepO f ch o) := by
  unfold stepO
  split
  · exact srt_put h
  · split
    · exact srt_put h
    · exact h
theorem srt_play {f : List Bool} {ch : List Ch} (l : List Op3) (h : Srt ch) : Srt (playM f ch l) := by
  induction l generalizing ch with
  | nil => exact h
  | cons o r ih => exact ih (srt_stepO h)
theorem cnt_full {m : Int} {ch : List Ch} (hs : Srt ch) (h : lastM ch ≤ m) : cnt m ch = ch.length :=
  cnt_all fun j hj => by have := hs _ (List.getElem_mem hj); omega
theorem atM_high {m : Int} {f : List Bool} {ch : List Ch} (hs : Srt ch) (h : lastM ch ≤ m) : atM m f ch = after f ch := by
  unfold atM
  rw [cnt_full hs h, List.take_length]
theorem tw_snoc {α : Type} (p : α → Bool) (l : List α) (x : α) (h : p x = false ∨ ∃ y ∈ l, p y = false) : (l ++ [x]).takeWhile p = l.takeWhile p := by
  induction l with
  | nil =>
    rcases h with h | ⟨y, hy, _⟩
    · simp [h]
    · cases hy
  | cons a r ih =>
    rw [List.cons_append, List.takeWhile_cons, List.takeWhile_cons]
    by_cases ha : p a = true
    · rw [if_pos ha, if_pos ha, ih]
      rcases h with h | ⟨y, hy, h⟩
      · exact .inl h
      · rcases List.mem_cons.1 hy with rfl | hy
        · rw [ha] at h; cases h
        · exact .inr ⟨y, hy, h⟩
    · rw [if_neg ha, if_neg ha]
theorem last_mem {ch : List Ch} (h : ch ≠ []) : ∃ y ∈ ch, y.1 = lastM ch := by
  refine ⟨ch.getLast h, List.getLast_mem h, ?_⟩
  unfold lastM
  rw [List.getLast?_eq_some_getLast h]
theorem atM_low {m : Int} {f : List Bool} {ch : List Ch} {c : Ch} (h : m < c.1 ∨ (m < lastM ch ∧ ch ≠ [])) : atM m f (ch ++ [c]) = atM m f ch := by
  unfold atM cnt
  rw [tw_snoc, List.take_append_of_le_length (List.takeWhile_sublist _).length_le]
  rcases h with h | ⟨h, hn⟩
  · exact .inl (by simpa using h)
  · obtain ⟨y, hy, e⟩ := last_mem hn
    exact .inr ⟨y, hy, by simp; omega⟩
theorem newM_length : ∀ {l : List Int} {f f' : List Bool}, newM l f = .ok f' → f'.length = f.length
  | [], f, f', h => by cases h; rfl
  | v :: r, f, f', h => by
    rw [newM_cons] at h
    split at h
    · split at h
      · cases h
      · rw [newM_length h]; simp
    · cases h
theorem listM_step (a b c d x : Bool) (v : Int) (hv : 0 ≤ v ∧ v < 4) : (listM ([a, b, c, d].set v.toNat x)).length ≤ (listM [a, b, c, d]).length + 1 ∧ (listM [a, b, c, d]).length ≤ (listM ([a, b, c, d].set v.toNat x)).length + 1 := by
  obtain rfl | rfl | rfl | rfl : v = 0 ∨ v = 1 ∨ v = 2 ∨ v = 3 := by omega
  all_goals revert a b c d x; decide
theorem listM_len (f : List Bool) : (listM f).length ≤ f.length := by
  unfold listM
  rw [List.length_map]
  exact Nat.le_trans (List.length_filter_le _ _) (by simp)
/-- by one change at most -/
def OneMore (_f : List Bool) (ch ch' : List Ch) (m : Int) : Prop := ch' = ch ∨ ∃ c : Ch, c.1 = m ∧ (0 ≤ c.2.1 ∧ c.2.1 < 4) ∧ lastM ch < m ∧ ch' = ch ++ [c]
theorem one_put (f : List Bool) (ch : List Ch) (c : Ch) : OneMore f ch (putCh f ch c) c.1 := by
  rcases putCh_cases f ch c with ⟨e, e2⟩ | ⟨_, e2⟩
  · exact .inr ⟨c, rfl, (put_none e).1, (put_none e).2.1, e2⟩
  · exact .inl e2
theorem one_two (f : List Bool) (ch : List Ch) (v m : Int) : OneMore f ch (putCh f (putCh f ch (m, v, false)) (m, v, true)) m := by
  rcases putCh_cases f ch (m, v, false) with ⟨e, e2⟩ | ⟨_, e2⟩
  · rcases putCh_cases f (putCh f ch (m, v, false)) (m, v, true) with ⟨x, x2⟩ | ⟨_, x2⟩
    · have := (put_none x).2.1
      rw [e2, lastM_snoc] at this
      simp only [] at this
      omega
    · rw [x2]; exact one_put _ _ _
  · rw [e2]; exact one_put _ _ _
theorem stays_low {f : List Bool} {ch ch' : List Ch} {m mark : Int} (h : OneMore f ch ch' m) (hl : mark < m ∨ mark < lastM ch) : atM mark f ch' = atM mark f ch := by
  rcases h with rfl | ⟨c, rfl, _, hc, rfl⟩
  · rfl
  · by_cases h1 : mark < c.1
    · exact atM_low (.inl h1)
    · omega
theorem stays_high {f : List Bool} {ch ch' : List Ch} {m mark : Int} (h : OneMore f ch ch' m) (hf : f.length = 4) (hs : Srt ch) (hl : ¬ mark < m) (hl2 : ¬ mark < lastM ch) :
    (listM (atM mark f ch')).length ≤ (listM (atM mark f ch)).length + 1 ∧ (listM (atM mark f ch)).length ≤ (listM (atM mark f ch')).length + 1 := by
  rcases h with rfl | ⟨c, rfl, hv, hc, rfl⟩
  · omega
  · have hs' : Srt (ch ++ [c]) := by
      intro x hx
      rw [lastM_snoc]
      rcases List.mem_append.1 hx with hx | hx
      · have := hs x hx; omega
      · simp only [List.mem_singleton] at hx; subst hx; omega
    rw [atM_high hs (by omega), atM_high hs' (by rw [lastM_snoc]; omega), after_snoc]
    obtain ⟨a, b, c', d, e⟩ := four (show (after f ch).length = 4 by rw [after_length, hf])
    rw [e]
    exact listM_step _ _ _ _ _ _ hv
theorem one_vols {f : List Bool} {ch ch' : List Ch} {m : Int} (h : OneMore f ch ch' m) (hv : Vols ch) (hs : ch.length ≤ 100) : Vols ch' ∧ ch'.length ≤ 101 := by
  rcases h with rfl | ⟨c, rfl, hv', hc, rfl⟩
  · exact ⟨hv, by omega⟩
  · refine ⟨fun x hx => ?_, by simp; omega⟩
    rcases List.mem_append.1 hx with hx | hx
    · exact hv x hx
    · simp only [List.mem_singleton] at hx; subst hx; exact hv'
end Go.Proofs.YtkoakmaihcheaabDoor
