/- Contracts of functions of the given program, and plain laws on what they compute: parts of the proofs of laws. -/
import Derived.Test.YtkoakmaihcheaabDoorGLt
import Derived.Test.YtkoakmaihcheaabDoorM5
namespace Go.Proofs.YtkoakmaihcheaabDoor
open Go Go.GL

def setAll (f : List Bool) (l : List Int) : List Bool := l.foldl (fun f v => f.set v.toNat true) f
theorem setAll_length (f : List Bool) (l : List Int) : (setAll f l).length = f.length := by
  induction l generalizing f with
  | nil => rfl
  | cons v r ih => simp only [setAll, List.foldl_cons] at *; rw [ih]; simp
theorem setAll_get (f : List Bool) (l : List Int) (hl : ∀ v ∈ l, 0 ≤ v) (k : Nat) (hk : k < f.length) : (setAll f l).getD k false = (f.getD k false || decide ((k : Int) ∈ l)) := by
  induction l generalizing f with
  | nil => simp [setAll]
  | cons v r ih =>
    have h := ih (f.set v.toNat true) (fun x hx => hl x (List.mem_cons_of_mem _ hx)) (by simpa using hk)
    have e : setAll f (v :: r) = setAll (f.set v.toNat true) r := rfl
    rw [e, h]
    have hv := hl v (List.mem_cons_self)
    by_cases hkv : (k : Int) = v
    · have : v.toNat = k := by omega
      subst this
      simp [hk, hkv]
    · have h1 : v.toNat ≠ k := by omega
      have h2 : decide ((k : Int) ∈ v :: r) = decide ((k : Int) ∈ r) := by simp [hkv]
      rw [h2]
      congr 1
      simp [List.getD, h1]
theorem newM_iff (l : List Int) (f g : List Bool) (hf : f.length = 4) : newM l f = .ok g ↔ ((∀ v ∈ l, 0 ≤ v ∧ v < 4) ∧ l.Nodup ∧ (∀ v ∈ l, f.getD v.toNat false = false) ∧ g = setAll f l) := by
  induction l generalizing f with
  | nil =>
    unfold newM
    constructor
    · intro h; cases h; simp [setAll]
    · rintro ⟨_, _, _, rfl⟩; rfl
  | cons v r ih =>
    rw [newM_cons]
    by_cases hv : 0 ≤ v ∧ v < 4
    · rw [if_pos hv]
      by_cases hb : f.getD v.toNat false = true
      · rw [if_pos hb]
        constructor
        · intro h; cases h
        · rintro ⟨_, _, h, _⟩
          have := h v (List.mem_cons_self)
          rw [hb] at this; cases this
      · rw [if_neg hb, ih _ (by simpa using hf)]
        have hb : f.getD v.toNat false = false := by simpa using hb
        have e : setAll f (v :: r) = setAll (f.set v.toNat true) r := rfl
        rw [e]
        have key : ∀ x ∈ r, 0 ≤ x → ((f.set v.toNat true).getD x.toNat false = false ↔ (x ≠ v ∧ f.getD x.toNat false = false)) := by
          intro x hx x0
          by_cases hxv : x = v
          · subst hxv
            have : x.toNat < f.length := by omega
            simp [List.getD, this]
          · have h1 : v.toNat ≠ x.toNat := by omega
            simp [List.getD, h1, hxv]
        constructor
        · rintro ⟨h1, h2, h3, h4⟩
          refine ⟨?_, ?_, ?_, h4⟩
          · intro x hx
            rcases List.mem_cons.1 hx with rfl | hx
            · exact hv
            · exact h1 x hx
          · refine List.nodup_cons.2 ⟨fun hm => ?_, h2⟩
            exact ((key v hm hv.1).1 (h3 v hm)).1 rfl
          · intro x hx
            rcases List.mem_cons.1 hx with rfl | hx
            · exact hb
            · exact ((key x hx (h1 x hx).1).1 (h3 x hx)).2
        · rintro ⟨h1, h2, h3, h4⟩
          obtain ⟨h2a, h2b⟩ := List.nodup_cons.1 h2
          refine ⟨fun x hx => h1 x (List.mem_cons_of_mem _ hx), h2b, fun x hx => ?_, h4⟩
          exact (key x hx (h1 x (List.mem_cons_of_mem _ hx)).1).2 ⟨fun e => h2a (e ▸ hx), h3 x (List.mem_cons_of_mem _ hx)⟩
    · rw [if_neg hv]
      constructor
      · intro h; cases h
      · rintro ⟨h, _⟩; exact absurd (h v (List.mem_cons_self)) hv
def f0 : List Bool := [false, false, false, false]
theorem setAll_rev (l : List Int) (hl : ∀ v ∈ l, 0 ≤ v) : setAll f0 l.reverse = setAll f0 l := by
  apply List.ext_getElem
  · rw [setAll_length, setAll_length]
  · intro k h1 h2
    have hk : k < f0.length := by rw [setAll_length] at h1; exact h1
    have e1 := setAll_get f0 l hl k hk
    have e2 := setAll_get f0 l.reverse (fun v hv => hl v (List.mem_reverse.1 hv)) k hk
    rw [show (setAll f0 l).getD k false = (setAll f0 l)[k] by simp [List.getD, h2]] at e1
    rw [show (setAll f0 l.reverse).getD k false = (setAll f0 l.reverse)[k] by simp [List.getD, h1]] at e2
    rw [e1, e2]
    simp
theorem newM_rev {l : List Int} {g : List Bool} (h : newM l f0 = .ok g) : newM l.reverse f0 = .ok g := by
  obtain ⟨h1, h2, h3, h4⟩ := (newM_iff l f0 g rfl).1 h
  refine (newM_iff _ f0 g rfl).2 ⟨fun v hv => h1 v (List.mem_reverse.1 hv), (List.reverse_perm l).nodup_iff.2 h2, fun v hv => h3 v (List.mem_reverse.1 hv), ?_⟩
  rw [h4, setAll_rev l (fun v hv => (h1 v hv).1)]
theorem newM_rev_err {l : List Int} {e : Int × Int} (h : newM l f0 = .error e) : ∃ e', newM l.reverse f0 = .error e' := by
  cases h2 : newM l.reverse f0 with
  | error e' => exact ⟨e', rfl⟩
  | ok g =>
    have := newM_rev h2
    rw [List.reverse_reverse, h] at this
    cases this
theorem newM_code {l : List Int} {f : List Bool} {v c : Int} (h : newM l f = .error (v, c)) : c = 5 ∨ c = 1 := by
  induction l generalizing f with
  | nil => cases h
  | cons x r ih =>
    rw [newM_cons] at h
    split at h
    · split at h
      · cases h; exact .inr rfl
      · exact ih h
    · cases h; exact .inl rfl
theorem listM_rise (f : List Bool) (hf : f.length = 4) : (listM f).Pairwise (· < ·) := by
  obtain ⟨a, b, c, d, rfl⟩ : ∃ a b c d, f = [a, b, c, d] := by
    match f, hf with
    | [a, b, c, d], _ => exact ⟨a, b, c, d, rfl⟩
  cases a <;> cases b <;> cases c <;> cases d <;> decide
theorem mem_listB (f : List Bool) (k : Nat) (hk : k < f.length) : ((k : Int) ∈ listM f) ↔ f.getD k false = true := by
  unfold listM
  constructor
  · intro h
    obtain ⟨a, ha, e⟩ := List.mem_map.1 h
    have := (List.mem_filter.1 ha).2
    have e : a = k := Int.ofNat.inj e
    subst e
    exact this
  · intro h
    exact List.mem_map.2 ⟨k, List.mem_filter.2 ⟨List.mem_range.2 hk, h⟩, rfl⟩
theorem order_mem {l : List Int} {g : List Bool} (h : newM l f0 = .ok g) (v : Int) : v ∈ listM g ↔ v ∈ l := by
  obtain ⟨h1, h2, h3, h4⟩ := (newM_iff l f0 g rfl).1 h
  have hgl : g.length = 4 := by rw [h4, setAll_length]; rfl
  have hin : ∀ v : Int, 0 ≤ v → v < 4 → (v ∈ listM g ↔ v ∈ l) := by
    intro v v0 v4
    have e := mem_listB g v.toNat (by omega)
    have e2 := setAll_get f0 l (fun v hv => (h1 v hv).1) v.toNat (by show v.toNat < 4; omega)
    rw [Int.toNat_of_nonneg v0] at e e2
    rw [e, h4, e2]
    have : f0.getD v.toNat false = false := by
      obtain rfl | rfl | rfl | rfl : v = 0 ∨ v = 1 ∨ v = 2 ∨ v = 3 := by omega
      all_goals rfl
    rw [this]
    simp
  constructor
  · intro hv
    have := hv
    unfold listM at this
    obtain ⟨a, ha, rfl⟩ := List.mem_map.1 this
    have := List.mem_range.1 (List.mem_filter.1 ha).1
    exact (hin _ (Int.natCast_nonneg _) (by show (a : Int) < 4; omega)).1 hv
  · intro hv
    exact (hin v (h1 v hv).1 (h1 v hv).2).2 hv
theorem order_len {l : List Int} {g : List Bool} (h : newM l f0 = .ok g) : (listM g).length = l.length := by
  obtain ⟨h1, h2, h3, h4⟩ := (newM_iff l f0 g rfl).1 h
  have hgl : g.length = 4 := by rw [h4, setAll_length]; rfl
  have hn : (listM g).Nodup := (listM_rise g hgl).imp (fun h => by omega)
  exact ((List.perm_ext_iff_of_nodup hn h2).2 (order_mem h)).length_eq
end Go.Proofs.YtkoakmaihcheaabDoor
