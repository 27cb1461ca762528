/- Contracts of functions of the given program, and plain laws: parts of the proofs of laws. -/
import Derived.Test.YtacgheafbkfciabGreatDoorZCN4
import Derived.Test.YtacgheafbkfciabGreatDoorZCN9
import Derived.Test.YtacgheafbkfciabGreatDoorZCN8
import Derived.Test.YtacgheafbkfciabGreatDoorZCN7
/- Contracts of functions of the given program, and plain laws on what they compute: parts of the proofs of laws. -/
namespace Go.Proofs.YtacgheafbkfciabGreatDoor
open Go Go.GL

/-- no change is later than the last one -/
def Srt (ch : List Ch) : Prop := ∀ c ∈ ch, c.1 ≤ lastM ch
def atM (m : Int) (f : List Bool) (ch : List Ch) : List Bool := after f (ch.take (cnt m ch))
theorem atM_length (m : Int) (f : List Bool) (ch : List Ch) : (atM m f ch).length = f.length := after_length _ _
theorem lastM_snoc (ch : List Ch) (c : Ch) : lastM (ch ++ [c]) = c.1 := by simp [lastM]
theorem put_none {f : List Bool} {ch : List Ch} {c : Ch} (h : putM f ch c = none) : (0 ≤ c.2.1 ∧ c.2.1 < 4) ∧ lastM ch < c.1 ∧ c.1 ≤ 1152921504606846975 ∧ (after f ch).getD c.2.1.toNat false = c.2.2 ∧ ch.length < 100 := by
  unfold putM at h
  split at h
  · cases h
  split at h
  · cases h
  split at h
  · cases h
  split at h
  · cases h
  split at h
  · cases h
  · rename_i h1 h2 h3 h4 h5
    exact ⟨Decidable.not_not.1 h1, by omega, by omega, Decidable.not_not.1 h4, by omega⟩
theorem putCh_cases (f : List Bool) (ch : List Ch) (c : Ch) : (putM f ch c = none ∧ putCh f ch c = ch ++ [c]) ∨ ((∃ x, putM f ch c = some x) ∧ putCh f ch c = ch) := by
  unfold putCh
  cases h : putM f ch c with
  | none => exact .inl ⟨rfl, rfl⟩
  | some x => exact .inr ⟨⟨x, rfl⟩, rfl⟩
theorem srt_put {f : List Bool} {ch : List Ch} {c : Ch} (h : Srt ch) : Srt (putCh f ch c) := by
  rcases putCh_cases f ch c with ⟨e, e2⟩ | ⟨_, e2⟩
  · rw [e2]
    intro x hx
    rw [lastM_snoc]
    have := (put_none e).2.1
    rcases List.mem_append.1 hx with hx | hx
    · have := h x hx; omega
    · simp only [List.mem_singleton] at hx; subst hx; omega
  · rw [e2]; exact h
theorem srt_stepO {f : List Bool} {ch : List Ch} {o : Op3} (h : Srt ch) : Srt (stepO f ch o) := by
  unfold stepO
  split
  · exact srt_put h
  · split
    · exact srt_put h
    · exact h
theorem srt_play {f : List Bool} {ch : List Ch} (l : List Op3) (h : Srt ch) : Srt (playM f ch l) := by
  induction l generalizing ch with
  | nil => exact h
  | cons o r ih => exact ih (srt_stepO h)
theorem cnt_full {m : Int} {ch : List Ch} (hs : Srt ch) (h : lastM ch ≤ m) : cnt m ch = ch.length :=
  cnt_all fun j hj => by have := hs _ (List.getElem_mem hj); omega
theorem atM_high {m : Int} {f : List Bool} {ch : List Ch} (hs : Srt ch) (h : lastM ch ≤ m) : atM m f ch = after f ch := by
  unfold atM
  rw [cnt_full hs h, List.take_length]
theorem tw_snoc {α : Type} (p : α → Bool) (l : List α) (x : α) (h : p x = false ∨ ∃ y ∈ l, p y = false) : (l ++ [x]).takeWhile p = l.takeWhile p := by
  induction l with
  | nil =>
    rcases h with h | ⟨y, hy, _⟩
    · simp [h]
    · cases hy
  | cons a r ih =>
    rw [List.cons_append, List.takeWhile_cons, List.takeWhile_cons]
    by_cases ha : p a = true
    · rw [if_pos ha, if_pos ha, ih]
      rcases h with h | ⟨y, hy, h⟩
      · exact .inl h
      · rcases List.mem_cons.1 hy with rfl | hy
        · rw [ha] at h; cases h
        · exact .inr ⟨y, hy, h⟩
    · rw [if_neg ha, if_neg ha]
theorem last_mem {ch : List Ch} (h : ch ≠ []) : ∃ y ∈ ch, y.1 = lastM ch := by
  refine ⟨ch.getLast h, List.getLast_mem h, ?_⟩
  unfold lastM
  rw [List.getLast?_eq_some_getLast h]
theorem atM_low {m : Int} {f : List Bool} {ch : List Ch} {c : Ch} (h : m < c.1 ∨ (m < lastM ch ∧ ch ≠ [])) : atM m f (ch ++ [c]) = atM m f ch := by
  unfold atM cnt
  rw [tw_snoc, List.take_append_of_le_length (List.takeWhile_sublist _).length_le]
  rcases h with h | ⟨h, hn⟩
  · exact .inl (by simpa using h)
  · obtain ⟨y, hy, e⟩ := last_mem hn
    exact .inr ⟨y, hy, by simp; omega⟩
theorem newM_length : ∀ {l : List Int} {f f' : List Bool}, newM l f = .ok f' → f'.length = f.length
  | [], f, f', h => by cases h; rfl
  | v :: r, f, f', h => by
    rw [newM_cons] at h
    split at h
    · split at h
      · cases h
      · rw [newM_length h]; simp
    · cases h
theorem listM_step (a b c d x : Bool) (v : Int) (hv : 0 ≤ v ∧ v < 4) : (listM ([a, b, c, d].set v.toNat x)).length ≤ (listM [a, b, c, d]).length + 1 ∧ (listM [a, b, c, d]).length ≤ (listM ([a, b, c, d].set v.toNat x)).length + 1 := by
  obtain rfl | rfl | rfl | rfl : v = 0 ∨ v = 1 ∨ v = 2 ∨ v = 3 := by omega
  all_goals revert a b c d x; decide
theorem listM_len (f : List Bool) : (listM f).length ≤ f.length := by
  unfold listM
  rw [List.length_map]
  exact Nat.le_trans (List.length_filter_le _ _) (by simp)
/-- by one change at most -/
def OneMore (_f : List Bool) (ch ch' : List Ch) (m : Int) : Prop := ch' = ch ∨ ∃ c : Ch, c.1 = m ∧ (0 ≤ c.2.1 ∧ c.2.1 < 4) ∧ lastM ch < m ∧ ch' = ch ++ [c]
theorem one_put (f : List Bool) (ch : List Ch) (c : Ch) : OneMore f ch (putCh f ch c) c.1 := by
  rcases putCh_cases f ch c with ⟨e, e2⟩ | ⟨_, e2⟩
  · exact .inr ⟨c, rfl, (put_none e).1, (put_none e).2.1, e2⟩
  · exact .inl e2
theorem one_two (f : List Bool) (ch : List Ch) (v m : Int) : OneMore f ch (putCh f (putCh f ch (m, v, false)) (m, v, true)) m := by
  rcases putCh_cases f ch (m, v, false) with ⟨e, e2⟩ | ⟨_, e2⟩
  · rcases putCh_cases f (putCh f ch (m, v, false)) (m, v, true) with ⟨x, x2⟩ | ⟨_, x2⟩
    · have := (put_none x).2.1
      rw [e2, lastM_snoc] at this
      simp only [] at this
      omega
    · rw [x2]; exact one_put _ _ _
  · rw [e2]; exact one_put _ _ _
theorem stays_low {f : List Bool} {ch ch' : List Ch} {m mark : Int} (h : OneMore f ch ch' m) (hl : mark < m ∨ mark < lastM ch) : atM mark f ch' = atM mark f ch := by
  rcases h with rfl | ⟨c, rfl, _, hc, rfl⟩
  · rfl
  · by_cases h1 : mark < c.1
    · exact atM_low (.inl h1)
    · omega
theorem stays_high {f : List Bool} {ch ch' : List Ch} {m mark : Int} (h : OneMore f ch ch' m) (hf : f.length = 4) (hs : Srt ch) (hl : ¬ mark < m) (hl2 : ¬ mark < lastM ch) :
    (listM (atM mark f ch')).length ≤ (listM (atM mark f ch)).length + 1 ∧ (listM (atM mark f ch)).length ≤ (listM (atM mark f ch')).length + 1 := by
  rcases h with rfl | ⟨c, rfl, hv, hc, rfl⟩
  · omega
  · have hs' : Srt (ch ++ [c]) := by
      intro x hx
      rw [lastM_snoc]
      rcases List.mem_append.1 hx with hx | hx
      · have := hs x hx; omega
      · simp only [List.mem_singleton] at hx; subst hx; omega
    rw [atM_high hs (by omega), atM_high hs' (by rw [lastM_snoc]; omega), after_snoc]
    obtain ⟨a, b, c', d, e⟩ := four (show (after f ch).length = 4 by rw [after_length, hf])
    rw [e]
    exact listM_step _ _ _ _ _ _ hv
theorem one_vols {f : List Bool} {ch ch' : List Ch} {m : Int} (h : OneMore f ch ch' m) (hv : Vols ch) (hs : ch.length ≤ 100) : Vols ch' ∧ ch'.length ≤ 101 := by
  rcases h with rfl | ⟨c, rfl, hv', hc, rfl⟩
  · exact ⟨hv, by omega⟩
  · refine ⟨fun x hx => ?_, by simp; omega⟩
    rcases List.mem_append.1 hx with hx | hx
    · exact hv x hx
    · simp only [List.mem_singleton] at hx; subst hx; exact hv'
end Go.Proofs.YtacgheafbkfciabGreatDoor
/- Contracts of functions of the given program, and plain laws on what they compute: parts of the proofs of laws. -/
namespace Go.Proofs.YtacgheafbkfciabGreatDoor
open Go Go.GL

def setAll (f : List Bool) (l : List Int) : List Bool := l.foldl (fun f v => f.set v.toNat true) f
theorem setAll_length (f : List Bool) (l : List Int) : (setAll f l).length = f.length := by
  induction l generalizing f with
  | nil => rfl
  | cons v r ih => simp only [setAll, List.foldl_cons] at *; rw [ih]; simp
theorem setAll_get (f : List Bool) (l : List Int) (hl : ∀ v ∈ l, 0 ≤ v) (k : Nat) (hk : k < f.length) : (setAll f l).getD k false = (f.getD k false || decide ((k : Int) ∈ l)) := by
  induction l generalizing f with
  | nil => simp [setAll]
  | cons v r ih =>
    have h := ih (f.set v.toNat true) (fun x hx => hl x (List.mem_cons_of_mem _ hx)) (by simpa using hk)
    have e : setAll f (v :: r) = setAll (f.set v.toNat true) r := rfl
    rw [e, h]
    have hv := hl v (List.mem_cons_self)
    by_cases hkv : (k : Int) = v
    · have : v.toNat = k := by omega
      subst this
      simp [hk, hkv]
    · have h1 : v.toNat ≠ k := by omega
      have h2 : decide ((k : Int) ∈ v :: r) = decide ((k : Int) ∈ r) := by simp [hkv]
      rw [h2]
      congr 1
      simp [List.getD, h1]
theorem newM_iff (l : List Int) (f g : List Bool) (hf : f.length = 4) : newM l f = .ok g ↔ ((∀ v ∈ l, 0 ≤ v ∧ v < 4) ∧ l.Nodup ∧ (∀ v ∈ l, f.getD v.toNat false = false) ∧ g = setAll f l) := by
  induction l generalizing f with
  | nil =>
    unfold newM
    constructor
    · intro h; cases h; simp [setAll]
    · rintro ⟨_, _, _, rfl⟩; rfl
  | cons v r ih =>
    rw [newM_cons]
    by_cases hv : 0 ≤ v ∧ v < 4
    · rw [if_pos hv]
      by_cases hb : f.getD v.toNat false = true
      · rw [if_pos hb]
        constructor
        · intro h; cases h
        · rintro ⟨_, _, h, _⟩
          have := h v (List.mem_cons_self)
          rw [hb] at this; cases this
      · rw [if_neg hb, ih _ (by simpa using hf)]
        have hb : f.getD v.toNat false = false := by simpa using hb
        have e : setAll f (v :: r) = setAll (f.set v.toNat true) r := rfl
        rw [e]
        have key : ∀ x ∈ r, 0 ≤ x → ((f.set v.toNat true).getD x.toNat false = false ↔ (x ≠ v ∧ f.getD x.toNat false = false)) := by
          intro x hx x0
          by_cases hxv : x = v
          · subst hxv
            have : x.toNat < f.length := by omega
            simp [List.getD, this]
          · have h1 : v.toNat ≠ x.toNat := by omega
            simp [List.getD, h1, hxv]
        constructor
        · rintro ⟨h1, h2, h3, h4⟩
          refine ⟨?_, ?_, ?_, h4⟩
          · intro x hx
            rcases List.mem_cons.1 hx with rfl | hx
            · exact hv
            · exact h1 x hx
          · refine List.nodup_cons.2 ⟨fun hm => ?_, h2⟩
            exact ((key v hm hv.1).1 (h3 v hm)).1 rfl
          · intro x hx
            rcases List.mem_cons.1 hx with rfl | hx
            · exact hb
            · exact ((key x hx (h1 x hx).1).1 (h3 x hx)).2
        · rintro ⟨h1, h2, h3, h4⟩
          obtain ⟨h2a, h2b⟩ := List.nodup_cons.1 h2
          refine ⟨fun x hx => h1 x (List.mem_cons_of_mem _ hx), h2b, fun x hx => ?_, h4⟩
          exact (key x hx (h1 x (List.mem_cons_of_mem _ hx)).1).2 ⟨fun e => h2a (e ▸ hx), h3 x (List.mem_cons_of_mem _ hx)⟩
    · rw [if_neg hv]
      constructor
      · intro h; cases h
      · rintro ⟨h, _⟩; exact absurd (h v (List.mem_cons_self)) hv
def f0 : List Bool := [false, false, false, false]
theorem setAll_rev (l : List Int) (hl : ∀ v ∈ l, 0 ≤ v) : setAll f0 l.reverse = setAll f0 l := by
  apply List.ext_getElem
  · rw [setAll_length, setAll_length]
  · intro k h1 h2
    have hk : k < f0.length := by rw [setAll_length] at h1; exact h1
    have e1 := setAll_get f0 l hl k hk
    have e2 := setAll_get f0 l.reverse (fun v hv => hl v (List.mem_reverse.1 hv)) k hk
    rw [show (setAll f0 l).getD k false = (setAll f0 l)[k] by simp [List.getD, h2]] at e1
    rw [show (setAll f0 l.reverse).getD k false = (setAll f0 l.reverse)[k] by simp [List.getD, h1]] at e2
    rw [e1, e2]
    simp
theorem newM_rev {l : List Int} {g : List Bool} (h : newM l f0 = .ok g) : newM l.reverse f0 = .ok g := by
  obtain ⟨h1, h2, h3, h4⟩ := (newM_iff l f0 g rfl).1 h
  refine (newM_iff _ f0 g rfl).2 ⟨fun v hv => h1 v (List.mem_reverse.1 hv), (List.reverse_perm l).nodup_iff.2 h2, fun v hv => h3 v (List.mem_reverse.1 hv), ?_⟩
  rw [h4, setAll_rev l (fun v hv => (h1 v hv).1)]
theorem newM_rev_err {l : List Int} {e : Int × Int} (h : newM l f0 = .error e) : ∃ e', newM l.reverse f0 = .error e' := by
  cases h2 : newM l.reverse f0 with
  | error e' => exact ⟨e', rfl⟩
  | ok g =>
    have := newM_rev h2
    rw [List.reverse_reverse, h] at this
    cases this
theorem newM_code {l : List Int} {f : List Bool} {v c : Int} (h : newM l f = .error (v, c)) : c = 5 ∨ c = 1 := by
  induction l generalizing f with
  | nil => cases h
  | cons x r ih =>
    rw [newM_cons] at h
    split at h
    · split at h
      · cases h; exact .inr rfl
      · exact ih h
    · cases h; exact .inl rfl
theorem listM_rise (f : List Bool) (hf : f.length = 4) : (listM f).Pairwise (· < ·) := by
  obtain ⟨a, b, c, d, rfl⟩ : ∃ a b c d, f = [a, b, c, d] := by
    match f, hf with
    | [a, b, c, d], _ => exact ⟨a, b, c, d, rfl⟩
  cases a <;> cases b <;> cases c <;> cases d <;> decide
theorem mem_listB (f : List Bool) (k : Nat) (hk : k < f.length) : ((k : Int) ∈ listM f) ↔ f.getD k false = true := by
  unfold listM
  constructor
  · intro h
    obtain ⟨a, ha, e⟩ := List.mem_map.1 h
    have := (List.mem_filter.1 ha).2
    have e : a = k := Int.ofNat.inj e
    subst e
    exact this
  · intro h
    exact List.mem_map.2 ⟨k, List.mem_filter.2 ⟨List.mem_range.2 hk, h⟩, rfl⟩
theorem order_mem {l : List Int} {g : List Bool} (h : newM l f0 = .ok g) (v : Int) : v ∈ listM g ↔ v ∈ l := by
  obtain ⟨h1, h2, h3, h4⟩ := (newM_iff l f0 g rfl).1 h
  have hgl : g.length = 4 := by rw [h4, setAll_length]; rfl
  have hin : ∀ v : Int, 0 ≤ v → v < 4 → (v ∈ listM g ↔ v ∈ l) := by
    intro v v0 v4
    have e := mem_listB g v.toNat (by omega)
    have e2 := setAll_get f0 l (fun v hv => (h1 v hv).1) v.toNat (by show v.toNat < 4; omega)
    rw [Int.toNat_of_nonneg v0] at e e2
    rw [e, h4, e2]
    have : f0.getD v.toNat false = false := by
      obtain rfl | rfl | rfl | rfl : v = 0 ∨ v = 1 ∨ v = 2 ∨ v = 3 := by omega
      all_goals rfl
    rw [this]
    simp
  constructor
  · intro hv
    have := hv
    unfold listM at this
    obtain ⟨a, ha, rfl⟩ := List.mem_map.1 this
    have := List.mem_range.1 (List.mem_filter.1 ha).1
    exact (hin _ (Int.natCast_nonneg _) (by show (a : Int) < 4; omega)).1 hv
  · intro hv
    exact (hin v (h1 v hv).1 (h1 v hv).2).2 hv
theorem order_len {l : List Int} {g : List Bool} (h : newM l f0 = .ok g) : (listM g).length = l.length := by
  obtain ⟨h1, h2, h3, h4⟩ := (newM_iff l f0 g rfl).1 h
  have hgl : g.length = 4 := by rw [h4, setAll_length]; rfl
  have hn : (listM g).Nodup := (listM_rise g hgl).imp (fun h => by omega)
  exact ((List.perm_ext_iff_of_nodup hn h2).2 (order_mem h)).length_eq
end Go.Proofs.YtacgheafbkfciabGreatDoor
/- Contracts of functions of the given program, and plain laws on what they compute: parts of the proofs of laws. -/

namespace Go.Proofs.YtacgheafbkfciabGreatDoor
open Go Go.GL

/-! the disk -/
def secC (s : List UInt8) : List Value := s.map byteV
def looC (x : Nat × List UInt8) : List Value := .int .i64 x.1 :: x.2.map byteV
def dskL (p : Nat) (D : Dsk) (x : Option Addr × Nat × Option Addr × Nat) : List Assn :=
  [blk p [.slice x.1 D.S.length x.2.1, .slice x.2.2.1 D.W.length x.2.2.2] 77,
   ownS x.1 D.S.length x.2.1 129 64 (D.S.flatMap secC),
   ownS x.2.2.1 D.W.length x.2.2.2 131 65 (D.W.flatMap looC)]
def dsk (p : Nat) (D : Dsk) : Assn := exA (dskL p D)
theorem up_dsk (p : Nat) (D : Dsk) : Up (dsk p D) := up_exA _
theorem repL_sec (n : Nat) : repL (List.replicate 64 (.int .u8 0)) n = (List.replicate n zero64).flatMap secC := by
  induction n with
  | zero => rfl
  | succ n ih => rw [repL, ih, List.replicate_succ (a := zero64), List.flatMap_cons]; rfl
theorem secC_len {D : Dsk} (h : D.ok) : ∀ s ∈ D.S, (secC s).length = 64 := fun s hs => by unfold secC; rw [List.length_map, h.s64 s hs]
theorem looC_len {D : Dsk} (h : D.ok) : ∀ x ∈ D.W, (looC x).length = 65 := fun x hx => by unfold looC; rw [List.length_cons, List.length_map, (h.w64 x hx).2]
set_option maxRecDepth 10000 in
theorem dnew_rt (n : Int) : RT G 14 [.int .i64 n] (fun _ => True) (fun v E => ∃ p, v = .pointer (some ⟨p, 0, none⟩) ∧ E = [dsk p (Dsk.new n)]) := by
  refine RT.enter Tryz.func14 rfl (by decide) rfl Tryz.ntmps14 rfl (fun A hu hA => ?_)
  repeat (first | refine GO ?_ | refine NW fun _ => ?_)
  have e : (if 0 < (if 1024 < n then 1024 else n) then (if 1024 < n then 1024 else n) else 0) = max 0 (min n 1024) := by split <;> split <;> omega
  rw [e]
  have hb : 0 ≤ max 0 (min n 1024) ∧ max 0 (min n 1024) ≤ 1024 := by omega
  have hd : Dsk.new n = ⟨List.replicate (max 0 (min n 1024)).toNat zero64, []⟩ := rfl
  rw [hd]
  generalize max 0 (min n 1024) = m at *
  refine WL.step rfl (OP.makeS (z := List.replicate 64 (.int .u8 0)) rfl rfl rfl rfl rfl rfl rfl rfl hb.1 (by omega) (by omega) rfl rfl (fun b => ?_))
  rw [repL_sec m.toNat]
  repeat (first | refine GO ?_ | refine NW fun _ => ?_)
  rename_i p
  refine ret1 rfl ⟨_, ⟨p, rfl, rfl⟩, (Imp.nilS 131 65).trans <| Imp.foldP (some ⟨b, 0, none⟩, m.toNat, none, 0) (by dsimp only [dskL]; rw [List.length_replicate]; exact (by repeat (first | exact Picks.nil _ | apply Picks.cons | exact Pick.here _ _ | apply Pick.there))) (Imp.refl _)⟩
theorem dlen_ro (p : Nat) (D : Dsk) : RO G 72 [.pointer (some ⟨p, 0, none⟩)] (dsk p D) (.int .i64 D.S.length) := by
  refine RO.enterEx Tryz.func72 rfl (by decide) rfl Tryz.ntmps72 rfl (fun x A hu hA => ?_)
  have hE : ∀ {L}, A ∈ L → Ent L (cellsAt p 0 [.slice x.1 D.S.length x.2.1, .slice x.2.2.1 D.W.length x.2.2.2]) := fun m => Ent.of hu hA m (Ent.whole (List.Mem.head _))
  repeat (first | refine GD ?_ | refine NW fun _ => ?_)
  refine WL.step rfl (OP.load1 (v := .slice x.1 D.S.length x.2.1) rfl rfl rfl rfl (Ent.one (i := 0) (hE MM) rfl) rfl rfl ?_)
  repeat (first | refine GD ?_ | refine NW fun _ => ?_)
  exact ret1 rfl ⟨rfl, MM⟩
theorem in_case (i : Int) (n : Nat) : (0 ≤ i ∧ i < n) ∨ ¬ (0 ≤ i ∧ i < n) := Classical.em _
def diskT : ByteArray := ⟨#[100, 105, 115, 107]⟩
set_option maxRecDepth 10000 in
theorem dthere_rt (p : Nat) (D : Dsk) (i : Int) : RT G 64 [.pointer (some ⟨p, 0, none⟩), .int .i64 i] (dsk p D) (IsEr (if 0 ≤ i ∧ i < D.S.length then none else some ([(diskT, i)], 5))) := by
  refine RT.enter Tryz.func64 rfl (by decide) rfl Tryz.ntmps64 rfl (fun A hu hA => ?_)
  have hE : ∀ {L}, A ∈ L → Ent L (dsk p D) := fun m => Ent.mem m hu hA
  by_cases h0 : i < 0
  · rw [if_neg (by omega)]
    repeat (first | refine GD ?_ | refine NW fun _ => ?_)
    refine WL.step rfl (OP.call (pre := []) rfl rfl (wrap_ok diskT i 5 (by decide)) PS rfl rfl ?_)
    intro v M hF
    obtain ⟨M', h1, h2⟩ := hF.isEr
    repeat (first | refine GD ?_ | refine NW fun _ => ?_)
    exact ret1 rfl ⟨M', h1, Imp.app h2 _⟩
  repeat (first | refine GD ?_ | refine NW fun _ => ?_)
  refine WL.guardT rfl rfl rfl rfl (OP.callRO rfl rfl (dlen_ro p D) (hE MM) rfl rfl ?_)
  by_cases h1 : i < D.S.length
  · rw [if_pos (by omega)]
    repeat (first | refine GD ?_ | refine NW fun _ => ?_)
    exact ret1 rfl ⟨[], ⟨rfl, rfl⟩, Imp.refl _⟩
  · rw [if_neg (by omega)]
    repeat (first | refine GD ?_ | refine NW fun _ => ?_)
    refine WL.step rfl (OP.call (pre := []) rfl rfl (wrap_ok diskT i 5 (by decide)) PS rfl rfl ?_)
    intro v M hF
    obtain ⟨M', h1, h2⟩ := hF.isEr
    repeat (first | refine GD ?_ | refine NW fun _ => ?_)
    exact ret1 rfl ⟨M', h1, Imp.app h2 _⟩
/-- Write: the answer, the memory -/
def WrPost (p : Nat) (D : Dsk) (i : Int) (l : List UInt8) (v : Value) (M : List Assn) : Prop :=
  if (0 ≤ i ∧ i < D.S.length) ∧ l.length = 64 then v = .nilIface ∧ M = [dsk p (D.put i.toNat l)]
  else ∃ E, IsEr (some ([(diskT, i)], if 0 ≤ i ∧ i < D.S.length then 1 else 5)) v E ∧ M = E ++ [dsk p D]
theorem min_lt {a b : Nat} (h : a < b) : min a b = a := by omega
set_option maxHeartbeats 1000000 in
set_option maxRecDepth 10000 in
theorem dwrite_ok (p : Nat) (D : Dsk) (i : Int) (l : List UInt8) (a : Option Addr) (cap : Nat) (hw : D.W.length < 1000000) (hl : l.length < 1000000) :
    Triple G 37 [.pointer (some ⟨p, 0, none⟩), .int .i64 i, .slice a l.length cap] [dsk p D, ownS a l.length cap 5 1 (l.map byteV)] (WrPost p D i l) := by
  refine Triple.enter Tryz.func37 rfl (by decide) rfl Tryz.ntmps37 rfl (fun F => ?_)
  repeat (first | refine GO ?_ | refine NW fun _ => ?_)
  refine WL.step rfl (OP.callRT rfl rfl (dthere_rt p D i) (Ent.at (up_dsk p D) MM) rfl rfl ?_)
  by_cases hi : 0 ≤ i ∧ i < D.S.length
  rotate_left
  · rw [if_neg hi]
    rintro _ _ ⟨ch, h1, rfl, rfl⟩
    cases ch with
    | nil => cases h1
    | cons x r =>
      dsimp only [valOf]
      repeat (first | refine GD ?_ | refine NW fun _ => ?_)
      refine ret1 rfl ⟨[chainR (x :: r) 5, dsk p D], ?_, II⟩
      unfold WrPost
      rw [if_neg (fun h => hi h.1), if_neg hi]
      exact ⟨_, ⟨x :: r, h1, rfl, rfl⟩, rfl⟩
  rw [if_pos hi]
  rintro _ _ ⟨rfl, rfl⟩
  repeat (first | refine GO ?_ | refine NW fun _ => ?_)
  rename_i x
  have hcells : ∃ w, w.length = min l.length 64 ∧ ((l.map byteV).take (min l.length 64 * 1)) = w := ⟨_, by simp, rfl⟩
  obtain ⟨w, hwl, hw1⟩ := hcells
  have hone : allOne w = true := by rw [← hw1, ← List.map_take]; exact allOne_bytes _
  refine WL.imp (M := [blk x (.int .i64 i :: List.replicate 64 (.int .u8 0)) 131, dsk p D, ownS a l.length cap 5 1 (l.map byteV), F]) (Imp.refl _) ?_
  refine WL.step rfl (OP.copyB (M := [blk x (.int .i64 i :: (w ++ List.replicate (64 - w.length) (.int .u8 0))) 131, dsk p D, ownS a l.length cap 5 1 (l.map byteV), F]) rfl rfl rfl rfl rfl rfl rfl (Ent.own MM) hw1 hone (UpdM.here ?_) rfl rfl ?_)
  · have h := setMany_mid w [.int .i64 i] (List.replicate w.length (.int .u8 0)) (List.replicate (64 - w.length) (.int .u8 0)) (by simp)
    rw [List.append_assoc, List.replicate_append_replicate, show w.length + (64 - w.length) = 64 by omega] at h
    simpa using h
  by_cases hm : 64 < l.length
  · rw [show min l.length 64 = 64 by omega]
    have h64 : ¬ l.length = 64 := by omega
    repeat (first | refine GD ?_ | refine NW fun _ => ?_)
    refine WL.step rfl (OP.call (pre := []) rfl rfl (wrap_ok diskT i 1 (by decide)) PS rfl rfl ?_)
    intro v M hF
    obtain ⟨M', h1, h2⟩ := hF.isEr
    repeat (first | refine GD ?_ | refine NW fun _ => ?_)
    refine ret1 rfl ⟨M' ++ [dsk p D], ?_, ?_⟩
    · unfold WrPost
      rw [if_neg (fun h => h64 h.2), if_pos hi]
      exact ⟨M', h1, rfl⟩
    · rw [List.append_assoc]
      exact (Imp.app h2 _).trans (Imp.appL II _)
  rw [show min l.length 64 = l.length by omega]
  by_cases h64 : l.length = 64
  rotate_left
  · repeat (first | refine GD ?_ | refine NW fun _ => ?_)
    refine WL.step rfl (OP.call (pre := []) rfl rfl (wrap_ok diskT i 1 (by decide)) PS rfl rfl ?_)
    intro v M hF
    obtain ⟨M', h1, h2⟩ := hF.isEr
    repeat (first | refine GD ?_ | refine NW fun _ => ?_)
    refine ret1 rfl ⟨M' ++ [dsk p D], ?_, ?_⟩
    · unfold WrPost
      rw [if_neg (fun h => h64 h.2), if_pos hi]
      exact ⟨M', h1, rfl⟩
    · rw [List.append_assoc]
      exact (Imp.app h2 _).trans (Imp.appL II _)
  have hwb : w = l.map byteV := by rw [← hw1, List.take_of_length_le]; simp; omega
  subst hwb
  rw [show List.replicate (64 - (l.map byteV).length) (Value.int .u8 0) = [] by rw [List.length_map, h64]; rfl, List.append_nil]
  have hii : (i.toNat : Int) = i := by omega
  have hlo : Value.int .i64 i :: l.map byteV = looC (i.toNat, l) := by unfold looC; rw [hii]
  rw [hlo]
  have hlen : (looC (i.toNat, l)).length = 65 := by rw [← hlo]; simp [h64]
  repeat (first | refine GD ?_ | refine NW fun _ => ?_)
  refine WC.open P1 (fun y => ?_)
  refine WC.imp (M := dskL p D y ++ [blk x (looC (i.toNat, l)) 131, F]) II ?_
  unfold dskL
  dsimp only [List.cons_append, List.nil_append]
  refine RD 7 11 (_) ?_
  refine WP 0 ?_
  refine WP 1 ?_
  refine WP 2 ?_
  refine WP 3 ?_
  refine VV 4 ?_
  refine VL 5 (.agg (looC (i.toNat, l)).toArray) rfl rfl rfl rfl (.inr ⟨rfl, looC (i.toNat, l), rfl, hlen, Ent.whole MM⟩) ?_
  refine WH.only 6 rfl rfl (by kernel_rfl) rfl (OP.sliceLit rfl rfl rfl rfl rfl (evLit1 rfl rfl hlen rfl rfl rfl) rfl rfl (fun b2 => ⟨fun _ => II, ?_⟩))
  refine WH.only 7 rfl rfl (by kernel_rfl) rfl (OP.append rfl rfl rfl rfl rfl rfl rfl rfl rfl P1 (Ent.own MM) (by rw [← hlo]; exact allOne_bytes l) (by omega) (by omega) rfl rfl (fun a' cap' => ⟨(fun h => nomatch h), ?_⟩))
  refine WP 8 ?_
  refine WP 9 ?_
  refine WH.only 10 rfl rfl (by kernel_rfl) rfl (OP.store rfl rfl rfl rfl rfl rfl rfl UP rfl ⟨(fun h => nomatch h), ?_⟩)
  refine DN ?_
  repeat (first | refine GD ?_ | refine NW fun _ => ?_)
  refine ret1 rfl ⟨[dsk p (D.put i.toNat l)], ?_, ?_⟩
  · unfold WrPost
    rw [if_pos ⟨hi, h64⟩]
    exact ⟨rfl, rfl⟩
  · refine Imp.foldP (N := [ownS (some ⟨b2, 0, none⟩) 1 1 131 65 (looC (i.toNat, l)), blk x (looC (i.toNat, l)) 131, F]) (y.1, y.2.1, a', cap') ?_ II
    unfold dskL Dsk.put
    dsimp only
    rw [List.length_append, List.flatMap_append, List.flatMap_cons, List.flatMap_nil, List.append_nil]
    exact (by repeat (first | exact Picks.nil _ | apply Picks.cons | exact Pick.here _ _ | apply Pick.there))
theorem Imp.blkR {b n : Nat} {c : List Value} {T : TypeId} {L : List Assn} (h : c.length = n) : Imp (blk b c T :: L) (readS (some ⟨b, 0, none⟩) n 1 c :: L) :=
  fun _ s => stars_head_mono (fun _ ⟨fr, hb, _⟩ => ⟨by omega, .inr ⟨b, 0, rfl, _, T, fr, hb, fun i v hi => by simpa using hi⟩⟩) s
theorem cut_all {L : List Assn} {b : Nat} {x : Value} {l : List Value} {T : TypeId} {n : Nat} (m : blk b (x :: l) T ∈ L) (h : l.length = n) : HasCut L b 1 n l := by
  have e : cutL (x :: l) 1 n = some l := cutL_all h
  induction L with
  | nil => cases m
  | cons A L ih => rcases List.mem_cons.1 m with h1 | h1
                   · subst h1; exact HasCut.here e
                   · exact HasCut.there (ih h1)
theorem Dsk.cur_def (D : Dsk) (i : Nat) : D.cur i = curF i (D.S.getD i []) D.W := rfl
/-- Read: the answer, what is new -/
def DReadPost (D : Dsk) (i : Int) (v : Value) (E : List Assn) : Prop :=
  if 0 ≤ i ∧ i < D.S.length then ∃ b, v = .tuple #[.slice (some ⟨b, 0, none⟩) 64 64, .nilIface] ∧ E = [readS (some ⟨b, 0, none⟩) 64 1 ((D.cur i.toNat).map byteV)]
  else ∃ e, IsEr (some ([(diskT, i)], 5)) e E ∧ v = .tuple #[.slice none 0 0, e]
theorem allOne_loo (x : Nat × List UInt8) : allOne (looC x) = true := allOne_bytes x.2
set_option maxHeartbeats 1000000 in
set_option maxRecDepth 10000 in
theorem dread_rt (p : Nat) (D : Dsk) (i : Int) (hD : D.ok) (hw : D.W.length < 1000000) : RT G 82 [.pointer (some ⟨p, 0, none⟩), .int .i64 i] (dsk p D) (DReadPost D i) := by
  refine RT.enterEx Tryz.func82 rfl (by decide) rfl Tryz.ntmps82 rfl (fun y A hu hA => ?_)
  have hE : ∀ {L}, A ∈ L → Ent L (dsk p D) := fun m => Ent.mem m hu fun k a => ⟨y, hA k a⟩
  have hF : ∀ {L}, A ∈ L → Ent L (cellsAt p 0 [.slice y.1 D.S.length y.2.1, .slice y.2.2.1 D.W.length y.2.2.2]) := fun m => Ent.of hu hA m (Ent.whole (List.Mem.head _))
  have hS : ∀ {L}, A ∈ L → Ent L (readS y.1 D.S.length 64 (D.S.flatMap secC)) := fun m => Ent.of hu hA m (Ent.own (List.Mem.tail _ (List.Mem.head _)))
  have hW : ∀ {L}, A ∈ L → Ent L (readS y.2.2.1 D.W.length 65 (D.W.flatMap looC)) := fun m => Ent.of hu hA m (Ent.own (List.Mem.tail _ (List.Mem.tail _ (List.Mem.head _))))
  repeat (first | refine GO ?_ | refine NW fun _ => ?_)
  refine WL.step rfl (OP.callRT rfl rfl (dthere_rt p D i) (hE MM) rfl rfl ?_)
  by_cases hi : 0 ≤ i ∧ i < D.S.length
  rotate_left
  · rw [if_neg hi]
    rintro _ _ ⟨ch, h1, rfl, rfl⟩
    cases ch with
    | nil => cases h1
    | cons x r =>
      dsimp only [valOf]
      repeat (first | refine GD ?_ | refine NW fun _ => ?_)
      refine ret2 rfl rfl ⟨[chainR (x :: r) 5], ?_, II⟩
      unfold DReadPost
      rw [if_neg hi]
      exact ⟨_, ⟨x :: r, h1, rfl, rfl⟩, rfl⟩
  rw [if_pos hi]
  rintro _ _ ⟨rfl, rfl⟩
  obtain ⟨k, rfl⟩ : ∃ k : Nat, i = k := ⟨i.toNat, by omega⟩
  have hk : k < D.S.length := by omega
  have hs64 := hD.s64 D.S[k] (List.getElem_mem hk)
  repeat (first | refine GD ?_ | refine NW fun _ => ?_)
  refine WL.step rfl (OP.load1 (v := .slice y.1 D.S.length y.2.1) rfl rfl rfl rfl (Ent.one (i := 0) (hF MM) rfl) rfl rfl ?_)
  refine WL.fact (Ent.some (hS MM) (by omega)) ?_
  rintro ⟨bs, off, hys⟩
  rw [hys]
  rw [hys] at hS
  repeat (first | refine GD ?_ | refine NW fun _ => ?_)
  refine WL.step rfl (OP.loadA (l := secC D.S[k]) rfl rfl rfl rfl ((Ent.elMA (secC_len hD) (hS MM) hk)) (secC_len hD _ (List.getElem_mem hk)) rfl rfl ?_)
  repeat (first | refine GD ?_ | refine NW fun _ => ?_)
  rename_i x
  refine WL.step rfl (OP.store (vs := secC D.S[k]) (M := [blk x (secC D.S[k]) 129, A]) rfl rfl rfl rfl rfl (allOne_bytes _) (secC_len hD _ (List.getElem_mem hk)) (UpdM.here (setMany_all (by rw [secC_len hD _ (List.getElem_mem hk)]; rfl))) rfl ?_)
  repeat (first | refine GO ?_ | refine NW fun _ => ?_)
  refine WL.step rfl (OP.load1 (v := .slice y.2.2.1 D.W.length y.2.2.2) rfl rfl rfl rfl (Ent.one (i := 1) (hF MM) rfl) rfl rfl ?_)
  repeat (first | refine GO ?_ | refine NW fun _ => ?_)
  have hcu : ∀ j, (secC (curF k D.S[k] (D.W.take j))).length = 64 := fun j => by
    unfold secC; rw [List.length_map]; exact curF_64 hs64 (fun x hx => (hD.w64 x (List.mem_of_mem_take hx)).2)
  refine WC.loop (σ := Nat) (fun j => j ≤ D.W.length)
    (fun j => [(0, .val (.pointer (some ⟨p, 0, none⟩))), (1, .val (.int .i64 k)), (7, .val (.pointer (some ⟨x, 0, none⟩))), (26, .val (.slice y.2.2.1 D.W.length y.2.2.2)), (27, .val (.int .i64 D.W.length)), (28, .val (.int .i64 j))])
    (fun j => [blk x (secC (curF k D.S[k] (D.W.take j))) 129, A]) (fun j => D.W.length - j) 0 (Nat.zero_le _) ⟨rfl, rfl, rfl, rfl, rfl, rfl, trivial⟩ (Imp.refl _) ?_
  rintro j hj
  by_cases hlt : j < D.W.length
  rotate_left
  · have hje : j = D.W.length := by omega
    subst hje
    have hcl := hcu D.W.length
    rw [List.take_length] at *
    have hcur : D.cur k = curF k D.S[k] D.W := by rw [Dsk.cur_def, List.getD_eq_getElem?_getD, List.getElem?_eq_getElem hk]; rfl
    repeat (first | refine GD ?_ | refine NW fun _ => ?_)
    refine ret2 rfl rfl ⟨[readS (some ⟨x, 0, none⟩) 64 1 ((D.cur k).map byteV)], ?_, ?_⟩
    · unfold DReadPost
      rw [if_pos hi]
      exact ⟨x, rfl, rfl⟩
    · rw [hcur]
      exact Imp.blkR hcl
  have hsn : curF k D.S[k] (D.W.take (j + 1)) = if (D.W[j]).1 = k then (D.W[j]).2 else curF k D.S[k] (D.W.take j) := by
    rw [← List.take_append_getElem hlt, curF_snoc]
  have hxl := looC_len hD _ (List.getElem_mem hlt)
  obtain ⟨hx1, hx2⟩ := hD.w64 _ (List.getElem_mem hlt)
  refine WC.fact (Ent.some (hW MM) (by omega)) ?_
  rintro ⟨bw, offw, hyw⟩
  rw [hyw]
  rw [hyw] at hW
  repeat (first | refine GD ?_ | refine NW fun _ => ?_)
  refine WL.step rfl (OP.loadA (l := looC D.W[j]) rfl rfl rfl rfl ((Ent.elMA (looC_len hD) (hW MM) hlt)) hxl rfl rfl ?_)
  generalize D.W[j] = e at *
  obtain ⟨ei, eb⟩ := e
  dsimp only at hsn hx1 hx2
  repeat (first | refine GD ?_ | refine NW fun _ => ?_)
  rename_i x9
  refine WL.step rfl (OP.store (vs := looC (ei, eb)) (M := [blk x9 (looC (ei, eb)) 131, blk x (secC (curF k D.S[k] (D.W.take j))) 129, A]) rfl rfl rfl rfl rfl (allOne_loo _) hxl (UpdM.here (setMany_all (by rw [hxl]; rfl))) rfl ?_)
  by_cases hek : ei = k
  · rw [if_pos hek] at hsn
    subst hek
    repeat (first | refine GD ?_ | refine NW fun _ => ?_)
    refine WL.step rfl (OP.loadA (l := secC eb) rfl rfl rfl rfl (cut_all (n := 64) (x := .int .i64 ei) (T := 131) MM (by simp [secC, hx2])).ent.1 (by simp [secC, hx2]) rfl rfl ?_)
    refine WL.step rfl (OP.store (vs := secC eb) (M := [blk x9 (looC (ei, eb)) 131, blk x (secC eb) 129, A]) rfl rfl rfl rfl rfl (allOne_bytes _) (by simp [secC, hx2]) (UpdM.there (UpdM.here (setMany_all (by rw [hcu]; simp [secC, hx2])))) rfl ?_)
    repeat (first | refine GD ?_ | refine NW fun _ => ?_)
    exact ⟨j + 1, by omega, by omega, ⟨rfl, rfl, rfl, rfl, rfl, rfl, trivial⟩, by rw [hsn]; exact II⟩
  · rw [if_neg hek] at hsn
    have hne : ¬ (ei : Int) = k := by omega
    repeat (first | refine GD ?_ | refine NW fun _ => ?_)
    exact ⟨j + 1, by omega, by omega, ⟨rfl, rfl, rfl, rfl, rfl, rfl, trivial⟩, by rw [hsn]; exact II⟩
theorem settleF_succ (kept : Nat → Bool) (W : List (Nat × List UInt8)) (S : List (List UInt8)) (j : Nat) (h : j < W.length) : settleF kept 0 (W.take (j + 1)) S = if kept j = true then (settleF kept 0 (W.take j) S).set (W[j]).1 (W[j]).2 else settleF kept 0 (W.take j) S := by
  rw [← List.take_append_getElem h, settleF_snoc, List.length_take, Nat.zero_add, Nat.min_eq_left (by omega)]
set_option maxHeartbeats 2000000 in
set_option maxRecDepth 10000 in
theorem dsettle_ok (p : Nat) (D : Dsk) (hD : D.ok) (hw : D.W.length < 1000000) (f : FuncId) (caps : List Value) (K : Assn) (hK : Up K) (kept : Nat → Bool) (hf : ∀ j : Nat, j < D.W.length → RO G f ([.int .i64 j] ++ caps) K (.bool (kept j))) :
    Triple G 52 [.pointer (some ⟨p, 0, none⟩), .func (.func f) #[] caps.toArray] [dsk p D, K] (fun v M => v = .tuple #[] ∧ M = [dsk p (D.settle kept), K]) := by
  refine Triple.enter Tryz.func52 rfl (by decide) rfl Tryz.ntmps52 rfl (fun F => ?_)
  refine WC.open P1 (fun y => ?_)
  unfold dskL
  dsimp only [List.cons_append, List.nil_append]
  repeat (first | refine GO ?_ | refine NW fun _ => ?_)
  refine WC.loop (σ := Nat) (fun j => j ≤ D.W.length)
    (fun j => [(0, .val (.pointer (some ⟨p, 0, none⟩))), (1, .val (.func (.func f) #[] caps.toArray)), (11, .val (.slice y.2.2.1 D.W.length y.2.2.2)), (12, .val (.int .i64 D.W.length)), (13, .val (.int .i64 j))])
    (fun j => [blk p [.slice y.1 D.S.length y.2.1, .slice y.2.2.1 D.W.length y.2.2.2] 77,
      ownS y.1 D.S.length y.2.1 129 64 ((settleF kept 0 (D.W.take j) D.S).flatMap secC), ownS y.2.2.1 D.W.length y.2.2.2 131 65 (D.W.flatMap looC), K, F]) (fun j => D.W.length - j) 0 (Nat.zero_le _) ⟨rfl, rfl, rfl, rfl, rfl, trivial⟩ II ?_
  rintro j hj
  by_cases hlt : j < D.W.length
  rotate_left
  · have hje : j = D.W.length := by omega
    subst hje
    rw [List.take_length]
    repeat (first | refine GD ?_ | refine NW fun _ => ?_)
    refine ret0n ⟨_, ⟨rfl, rfl⟩, (Imp.nilS 131 65).trans (Imp.foldP (N := [ownS y.2.2.1 D.W.length y.2.2.2 131 65 (D.W.flatMap looC), K, F]) (y.1, y.2.1, none, 0) ?_ II)⟩
    unfold dskL Dsk.settle
    dsimp only
    rw [settleF_length]
    exact (by repeat (first | exact Picks.nil _ | apply Picks.cons | exact Pick.here _ _ | apply Pick.there))
  have hsn := settleF_succ kept D.W D.S j hlt
  have hxl := looC_len hD _ (List.getElem_mem hlt)
  obtain ⟨hx1, hx2⟩ := hD.w64 _ (List.getElem_mem hlt)
  have hRl := settleF_length kept (D.W.take j) 0 D.S
  have hR64 := settleF_64 kept (D.W.take j) 0 D.S hD.s64 (fun x hx => (hD.w64 x (List.mem_of_mem_take hx)).2)
  generalize settleF kept 0 (D.W.take j) D.S = R at *
  have hRc : ∀ s ∈ R, (secC s).length = 64 := fun s hs => by unfold secC; rw [List.length_map, hR64 s hs]
  refine WC.fact (Ent.some (Ent.own (a := y.2.2.1) (n := D.W.length) (cap := y.2.2.2) (T := 131) (size := 65) (cs := D.W.flatMap looC) MM) (by omega)) ?_
  rintro ⟨bw, offw, hyw⟩
  refine WC.fact (Ent.some (Ent.own (a := y.1) (n := D.S.length) (cap := y.2.1) (T := 129) (size := 64) (cs := R.flatMap secC) MM) (by omega)) ?_
  rintro ⟨bs, offs, hys⟩
  rw [hyw, hys]
  repeat (first | refine GD ?_ | refine NW fun _ => ?_)
  refine WL.step rfl (OP.loadA (l := looC D.W[j]) rfl rfl rfl rfl ((Ent.elMA (looC_len hD) (Ent.own MM) hlt)) hxl rfl rfl ?_)
  generalize D.W[j] = e at *
  obtain ⟨ei, eb⟩ := e
  dsimp only at hsn hx1 hx2
  repeat (first | refine GD ?_ | refine NW fun _ => ?_)
  rename_i x9
  refine WL.step rfl (OP.store (vs := looC (ei, eb)) (M := [blk x9 (looC (ei, eb)) 131, blk p [.slice (some ⟨bs, offs, none⟩) D.S.length y.2.1, .slice (some ⟨bw, offw, none⟩) D.W.length y.2.2.2] 77,
      ownS (some ⟨bs, offs, none⟩) D.S.length y.2.1 129 64 (R.flatMap secC), ownS (some ⟨bw, offw, none⟩) D.W.length y.2.2.2 131 65 (D.W.flatMap looC), K, F]) rfl rfl rfl rfl rfl (allOne_loo _) hxl (UpdM.here (setMany_all (by rw [hxl]; rfl))) rfl ?_)
  repeat (first | refine GD ?_ | refine NW fun _ => ?_)
  refine WL.step rfl (OP.callVRO (vs := [.int .i64 j]) rfl rfl rfl (hf j hlt) (Ent.at hK MM) rfl rfl ?_)
  cases hkj : kept j
  · rw [hkj, if_neg (by simp)] at hsn
    repeat (first | refine GD ?_ | refine NW fun _ => ?_)
    exact ⟨j + 1, by omega, by omega, ⟨rfl, rfl, rfl, rfl, rfl, trivial⟩, by rw [hsn]; exact II⟩
  · rw [hkj, if_pos rfl] at hsn
    repeat (first | refine GD ?_ | refine NW fun _ => ?_)
    have hel : (secC eb).length = 64 := by simp [secC, hx2]
    refine RD 9 10 (_) ?_
    refine WP 0 ?_
    refine WP 1 ?_
    refine WP 2 ?_
    refine VV 3 ?_
    refine WP 4 ?_
    refine VV 5 ?_
    refine WP 6 ?_
    refine VL 7 (.agg (secC eb).toArray) rfl rfl rfl rfl (.inr ⟨rfl, secC eb, rfl, hel, (cut_all (n := 64) (x := .int .i64 ei) (T := 131) MM hel).ent.1⟩) ?_
    refine WP 8 ?_
    refine WH.only 9 rfl rfl (by kernel_rfl) rfl (OP.storeO (vs := secC eb) (i := ei * 64) rfl rfl rfl rfl rfl (allOne_bytes _) hel P1 (flatM_set hRc (k := ei) (by omega) hel) rfl ⟨(fun h => nomatch h), ?_⟩)
    refine DN ?_
    repeat (first | refine GD ?_ | refine NW fun _ => ?_)
    exact ⟨j + 1, by omega, by omega, ⟨rfl, rfl, rfl, rfl, rfl, trivial⟩, by rw [hsn]; exact II⟩
theorem Imp.emp {L : List Assn} : Imp L ((fun _ => True) :: L) := fun h s => ⟨Hp.empty, h, fun _ => .inl rfl, by funext b; simp [Hp.join, Hp.empty], trivial, s⟩
theorem dflush1_ro (j : Int) : RO G 65 [.int .i64 j] (fun _ => True) (.bool true) := by
  refine RO.enter Tryz.func65 rfl (by decide) rfl Tryz.ntmps65 rfl (fun A hu hA => ?_) (fun _ _ _ h => h)
  repeat (first | refine GD ?_ | refine NW fun _ => ?_)
  exact ret1 rfl ⟨rfl, MM⟩
theorem dflush_ok (p : Nat) (D : Dsk) (hD : D.ok) (hw : D.W.length < 1000000) : Triple G 39 [.pointer (some ⟨p, 0, none⟩)] [dsk p D] (fun v M => v = .tuple #[] ∧ M = [dsk p D.flush]) := by
  refine Triple.enter Tryz.func39 rfl (by decide) rfl Tryz.ntmps39 rfl (fun F => ?_)
  repeat (first | refine GO ?_ | refine NW fun _ => ?_)
  refine WL.step rfl (OP.call (pre := [dsk p D, fun _ => True]) rfl rfl (dsettle_ok p D hD hw 65 [] (fun _ => True) (fun _ _ _ h => h) (fun _ => true) (fun j _ => dflush1_ro j)) (Imp.emp.trans PS) rfl rfl ?_)
  rintro _ _ ⟨rfl, rfl⟩
  repeat (first | refine GO ?_ | refine NW fun _ => ?_)
  exact ret0n ⟨_, ⟨rfl, rfl⟩, II⟩
end Go.Proofs.YtacgheafbkfciabGreatDoor
/- Contracts of functions of the given program, and plain laws on what they compute: parts of the proofs of laws. -/

namespace Go.Proofs.YtacgheafbkfciabGreatDoor
open Go Go.GL

/-! the journal: heads -/
def hdC (h : Hd) : List Value := [.int .i64 h.turn, .int .i64 h.first, .int .i64 h.gen, .int .i64 h.low]
set_option maxHeartbeats 2000000 in
set_option maxRecDepth 10000 in
theorem hsector_rt (h : Hd) : RT G 87 [.agg (hdC h).toArray] (fun _ => True) (BytesNew (headS h)) := by
  refine RT.enter Tryz.func87 rfl (by decide) rfl Tryz.ntmps87 rfl (fun A hu hA => ?_)
  have h1 := numB_nine h.turn
  have h2 := numB_nine h.first
  have h3 := numB_nine h.gen
  have h4 := numB_nine h.low
  have hb := headB_len h
  rw [show hdC h = [.int .i64 h.turn, .int .i64 h.first, .int .i64 h.gen, .int .i64 h.low] from rfl]
  repeat (first | refine GO ?_ | refine NW fun _ => ?_)
  rename_i q
  refine RD 7 7 (_) ?_
  refine WP 0 ?_
  refine VV 1 ?_
  refine WP 3 ?_
  refine VV 4 ?_
  refine WH.only 2 rfl rfl (by kernel_rfl) rfl (OP.call (pre := [ownS none 0 0 5 1 (([] : List UInt8).map byteV)]) rfl rfl (number_ok none 0 0 [] h.turn (by omega)) (Imp.nilS 5 1) rfl rfl (fun v M hM => ?_))
  obtain ⟨a1, cap1, rfl, rfl⟩ := hM
  refine ⟨fun _ => II, ?_⟩
  refine WH.only 5 rfl rfl (by kernel_rfl) rfl (OP.call (pre := [ownS a1 _ cap1 5 1 _]) rfl rfl (number_ok a1 _ cap1 _ h.first (by omega)) PS rfl rfl (fun v M hM => ?_))
  obtain ⟨a2, cap2, rfl, rfl⟩ := hM
  refine ⟨fun _ => II, ?_⟩
  refine WP 6 ?_
  refine DN ?_
  repeat (first | refine GO ?_ | refine NW fun _ => ?_)
  refine RD 13 13 ([blk q [.int .i64 h.turn, .int .i64 h.first, .int .i64 h.gen, .int .i64 h.low] 93, A]) ?_
  refine WP 0 ?_
  refine WP 1 ?_
  refine VV 2 ?_
  refine WP 4 ?_
  refine VV 5 ?_
  refine WH.only 3 rfl rfl (by kernel_rfl) rfl (OP.call (pre := [ownS a2 _ cap2 5 1 _]) rfl rfl (number_ok a2 _ cap2 _ h.gen (by omega)) PS rfl rfl (fun v M hM => ?_))
  obtain ⟨a3, cap3, rfl, rfl⟩ := hM
  refine ⟨fun _ => II, ?_⟩
  refine WH.only 6 rfl rfl (by kernel_rfl) rfl (OP.call (pre := [ownS a3 _ cap3 5 1 _]) rfl rfl (number_ok a3 _ cap3 _ h.low (by omega)) PS rfl rfl (fun v M hM => ?_))
  obtain ⟨a4, cap4, rfl, rfl⟩ := hM
  refine ⟨fun _ => II, ?_⟩
  refine WH.only 7 rfl rfl (by kernel_rfl) rfl (OP.callRT rfl rfl (sector_ok a4 _ cap4 (headB h) (by unfold headB; simp; omega) (by unfold headB at hb; simp at hb ⊢; omega)) (Ent.own (T := 5) (by unfold headB; exact MM)) rfl rfl (fun v E hE => ?_))
  obtain ⟨v1, rfl, a6, cap6, rfl, rfl⟩ := hE
  refine ⟨fun _ => II, ?_⟩
  refine WP 8 ?_
  refine WP 9 ?_
  refine WP 10 ?_
  refine WP 11 ?_
  refine WP 12 ?_
  refine DN ?_
  repeat (first | refine GO ?_ | refine NW fun _ => ?_)
  exact ret1 rfl ⟨[_], ⟨a6, cap6, rfl, rfl⟩, II⟩
/-- the answer of headOf -/
def HeadPost (l : List UInt8) (slot : Int) (v : Value) : Prop :=
  match headOf l slot with
  | some h => v = .tuple #[.agg (hdC h).toArray, .bool true]
  | none => ∃ h, v = .tuple #[.agg (hdC h).toArray, .bool false]
set_option maxHeartbeats 4000000 in
set_option maxRecDepth 10000 in
theorem headOf_rt (a : Option Addr) (n c : Nat) (l : List UInt8) (slot : Int) (hn : n = l.length) (hc : n ≤ c) (hs : n < 1000000) : RT G 85 [.slice a n c, .int .i64 slot] (readS a n 1 (l.map byteV)) (fun v E => HeadPost l slot v ∧ E = []) := by
  refine RT.enter Tryz.func85 rfl (by decide) rfl Tryz.ntmps85 rfl (fun A hu hA => ?_)
  have hE : ∀ {L}, A ∈ L → Ent L (readS a n 1 (l.map byteV)) := fun m => Ent.mem m hu hA
  repeat (first | refine GD ?_ | refine NW fun _ => ?_)
  refine WL.step rfl (OP.callRT rfl rfl (open_ok a n c l hn hc hs) (hE MM) rfl rfl ?_)
  rintro v E hO
  unfold OpenPost at hO
  by_cases ho : OpenOk l
  rotate_left
  · rw [if_neg ho] at hO
    obtain ⟨rfl, rfl⟩ := hO
    have hdec : headOf l slot = none := by unfold headOf; rw [if_neg (fun h => ho h.1)]
    repeat (first | refine GD ?_ | refine NW fun _ => ?_)
    refine retc2 rfl rfl rfl rfl rfl (HasCut.ent (n := 4) HC).1 ⟨[], ⟨?_, rfl⟩, II⟩
    unfold HeadPost
    rw [hdec]
    exact ⟨⟨0, 0, 0, 0⟩, rfl⟩
  rw [if_pos ho] at hO
  obtain ⟨v1, rfl, a2, cap2, rfl, rfl⟩ := hO
  have hdR : headOf l slot = if HdOk l slot (hd4 (l.take (l.length - 4), 0)).1 (hd4 (l.take (l.length - 4), 0)).2.2 then some (hd4 (l.take (l.length - 4), 0)).1 else none := by
    unfold headOf
    by_cases hk : HdOk l slot (hd4 (l.take (l.length - 4), 0)).1 (hd4 (l.take (l.length - 4), 0)).2.2
    · rw [if_pos ⟨ho, hk⟩, if_pos hk]
    · rw [if_neg (fun h => hk h.2), if_neg hk]
  have hl4 : (l.take (l.length - 4)).length < 1000000 := by rw [List.length_take]; omega
  generalize l.take (l.length - 4) = l4 at *
  refine WL.fact (Ent.ownLe (a := a2) (n := l4.length) (cap := cap2) (T := 5) (size := 1) (cs := l4.map byteV) MM) (fun hc2 => ?_)
  have hby : Bytes (ownS a2 l4.length cap2 5 1 (l4.map byteV)) l4 (.slice a2 l4.length cap2) := ⟨a2, l4.length, cap2, rfl, rfl, hc2, fun h x => read_of_own x⟩
  generalize hO : ownS a2 l4.length cap2 5 1 (l4.map byteV) = O at *
  have huO : Up O := by rw [← hO]; exact up_ownS _ _ _ _ _ _
  repeat (first | refine GD ?_ | refine NW fun _ => ?_)
  refine WL.step rfl (OP.callRT rfl rfl (read0_ok a2 l4.length cap2) (fun _ _ => trivial) rfl rfl ?_)
  rintro v E ⟨r, rfl, rfl⟩
  unfold hd4 at hdR
  repeat (first | refine GD ?_ | refine NW fun _ => ?_)
  refine WL.step rfl (OP.call (pre := [blk r [.slice a2 l4.length cap2, .int .i64 (l4, 0).2] 183, O]) rfl rfl (numR_ok r _ (l4, 0) O huO hby (by first | exact hl4 | assumption)) PS rfl rfl ?_)
  rintro _ _ ⟨rfl, vy1, hy1, rfl⟩
  have by1 := numR_bd (l4, 0)
  have hly1 : (numR (l4, 0)).2.1.length < 1000000 := by
    refine Nat.lt_of_le_of_lt by1.1 ?_
    first | exact hl4 | assumption
  generalize numR (l4, 0) = y1 at *
  obtain ⟨xy1, sy1⟩ := y1
  dsimp only at hy1 by1 hly1 hdR ⊢
  repeat (first | refine GD ?_ | refine NW fun _ => ?_)
  refine WL.step rfl (OP.call (pre := [blk r [vy1, .int .i64 sy1.2] 183, O]) rfl rfl (numR_ok r _ sy1 O huO hy1 (by first | exact hl4 | assumption)) PS rfl rfl ?_)
  rintro _ _ ⟨rfl, vy2, hy2, rfl⟩
  have by2 := numR_bd sy1
  have hly2 : (numR sy1).2.1.length < 1000000 := by
    refine Nat.lt_of_le_of_lt by2.1 ?_
    first | exact hl4 | assumption
  generalize numR sy1 = y2 at *
  obtain ⟨xy2, sy2⟩ := y2
  dsimp only at hy2 by2 hly2 hdR ⊢
  repeat (first | refine GD ?_ | refine NW fun _ => ?_)
  refine WL.step rfl (OP.call (pre := [blk r [vy2, .int .i64 sy2.2] 183, O]) rfl rfl (numR_ok r _ sy2 O huO hy2 (by first | exact hl4 | assumption)) PS rfl rfl ?_)
  rintro _ _ ⟨rfl, vy3, hy3, rfl⟩
  have by3 := numR_bd sy2
  have hly3 : (numR sy2).2.1.length < 1000000 := by
    refine Nat.lt_of_le_of_lt by3.1 ?_
    first | exact hl4 | assumption
  generalize numR sy2 = y3 at *
  obtain ⟨xy3, sy3⟩ := y3
  dsimp only at hy3 by3 hly3 hdR ⊢
  repeat (first | refine GD ?_ | refine NW fun _ => ?_)
  refine WL.step rfl (OP.call (pre := [blk r [vy3, .int .i64 sy3.2] 183, O]) rfl rfl (numR_ok r _ sy3 O huO hy3 (by first | exact hl4 | assumption)) PS rfl rfl ?_)
  rintro _ _ ⟨rfl, vy4, hy4, rfl⟩
  have by4 := numR_bd sy3
  have hly4 : (numR sy3).2.1.length < 1000000 := by
    refine Nat.lt_of_le_of_lt by4.1 ?_
    first | exact hl4 | assumption
  generalize numR sy3 = y4 at *
  obtain ⟨xy4, sy4⟩ := y4
  dsimp only at hy4 by4 hly4 hdR ⊢
  repeat (first | refine GD ?_ | refine NW fun _ => ?_)
  refine WL.step rfl (OP.callRO rfl rfl (err_ro r vy4 sy4.2) (Ent.whole (T := 183) MM) rfl rfl ?_)
  obtain ⟨ly4, ey4⟩ := sy4
  dsimp only at hdR ⊢
  by_cases he : ey4 = 0
  rotate_left
  · have hdec : headOf l slot = none := by rw [hdR, if_neg (fun h => he h.1)]
    repeat (first | refine GD ?_ | refine NW fun _ => ?_)
    refine RD 8 10 (_) ?_
    refine VV 0 ?_
    refine WP 1 ?_
    refine WP 2 ?_
    refine VF 3 ?_
    refine VF 4 ?_
    refine VF 5 ?_
    refine VF 6 ?_
    refine WP 7 ?_
    refine WH.only 8 rfl rfl (by kernel_rfl) rfl (OP.store rfl rfl rfl rfl rfl rfl rfl UP rfl ⟨(fun h => nomatch h), ?_⟩)
    refine WP 9 ?_
    refine DN ?_
    repeat (first | refine GD ?_ | refine NW fun _ => ?_)
    refine retc2 rfl rfl rfl rfl rfl (HasCut.ent (n := 4) HC).1 ⟨[], ⟨?_, rfl⟩, II⟩
    unfold HeadPost
    rw [hdec]
    exact ⟨⟨xy1, xy2, xy3, xy4⟩, rfl⟩
  by_cases h1 : xy4 ≤ xy3
  rotate_left
  · have hdec : headOf l slot = none := by rw [hdR, if_neg (fun h => h1 h.2.1)]
    repeat (first | refine GD ?_ | refine NW fun _ => ?_)
    refine RD 8 10 (_) ?_
    refine VV 0 ?_
    refine WP 1 ?_
    refine WP 2 ?_
    refine VF 3 ?_
    refine VF 4 ?_
    refine VF 5 ?_
    refine VF 6 ?_
    refine WP 7 ?_
    refine WH.only 8 rfl rfl (by kernel_rfl) rfl (OP.store rfl rfl rfl rfl rfl rfl rfl UP rfl ⟨(fun h => nomatch h), ?_⟩)
    refine WP 9 ?_
    refine DN ?_
    repeat (first | refine GD ?_ | refine NW fun _ => ?_)
    refine retc2 rfl rfl rfl rfl rfl (HasCut.ent (n := 4) HC).1 ⟨[], ⟨?_, rfl⟩, II⟩
    unfold HeadPost
    rw [hdec]
    exact ⟨⟨xy1, xy2, xy3, xy4⟩, rfl⟩
  by_cases h2 : 0 < xy2
  rotate_left
  · have hdec : headOf l slot = none := by rw [hdR, if_neg (fun h => h2 h.2.2.1)]
    repeat (first | refine GD ?_ | refine NW fun _ => ?_)
    refine RD 8 10 (_) ?_
    refine VV 0 ?_
    refine WP 1 ?_
    refine WP 2 ?_
    refine VF 3 ?_
    refine VF 4 ?_
    refine VF 5 ?_
    refine VF 6 ?_
    refine WP 7 ?_
    refine WH.only 8 rfl rfl (by kernel_rfl) rfl (OP.store rfl rfl rfl rfl rfl rfl rfl UP rfl ⟨(fun h => nomatch h), ?_⟩)
    refine WP 9 ?_
    refine DN ?_
    repeat (first | refine GD ?_ | refine NW fun _ => ?_)
    refine retc2 rfl rfl rfl rfl rfl (HasCut.ent (n := 4) HC).1 ⟨[], ⟨?_, rfl⟩, II⟩
    unfold HeadPost
    rw [hdec]
    exact ⟨⟨xy1, xy2, xy3, xy4⟩, rfl⟩
  by_cases h3 : xy1 % 2 = slot
  rotate_left
  · have hdec : headOf l slot = none := by rw [hdR, if_neg (fun h => h3 h.2.2.2.1)]
    repeat (first | refine GD ?_ | refine NW fun _ => ?_)
    refine RD 8 10 (_) ?_
    refine VV 0 ?_
    refine WP 1 ?_
    refine WP 2 ?_
    refine VF 3 ?_
    refine VF 4 ?_
    refine VF 5 ?_
    refine VF 6 ?_
    refine WP 7 ?_
    refine WH.only 8 rfl rfl (by kernel_rfl) rfl (OP.store rfl rfl rfl rfl rfl rfl rfl UP rfl ⟨(fun h => nomatch h), ?_⟩)
    refine WP 9 ?_
    refine DN ?_
    repeat (first | refine GD ?_ | refine NW fun _ => ?_)
    refine retc2 rfl rfl rfl rfl rfl (HasCut.ent (n := 4) HC).1 ⟨[], ⟨?_, rfl⟩, II⟩
    unfold HeadPost
    rw [hdec]
    exact ⟨⟨xy1, xy2, xy3, xy4⟩, rfl⟩
  repeat (first | refine GD ?_ | refine NW fun _ => ?_)
  have hsec := hsector_rt ⟨xy1, xy2, xy3, xy4⟩
  have hlen := headS_len ⟨xy1, xy2, xy3, xy4⟩
  have hok : HdOk l slot ⟨xy1, xy2, xy3, xy4⟩ ey4 ↔ headS ⟨xy1, xy2, xy3, xy4⟩ = l := ⟨fun h => h.2.2.2.2, fun h => ⟨he, h1, h2, h3, h⟩⟩
  generalize headS ⟨xy1, xy2, xy3, xy4⟩ = hS at *
  by_cases h4 : hS = l
  rotate_left
  all_goals
    refine RD 8 10 (_) ?_
    refine VV 0 ?_
    refine WP 1 ?_
    refine WP 2 ?_
    refine VV 3 ?_
    refine WP 5 ?_
    refine WH.onlyG (q := true) 4 rfl rfl rfl rfl rfl rfl rfl (by kernel_rfl) rfl (.inl rfl) (fun _ => OP.callRT rfl rfl hsec (fun _ _ => trivial) rfl rfl (fun v E hE' => ?_)) (fun h => nomatch h)
    obtain ⟨a6, cap6, rfl, rfl⟩ := hE'
    refine ⟨fun _ => II, ?_⟩
    refine WH.onlyG (q := true) 6 rfl rfl rfl rfl rfl rfl rfl (by kernel_rfl) rfl (.inl rfl) (fun _ => OP.callRO rfl rfl (beq_ro a6 a _ cap6 n c hS l) (Ent.and (Ent.own (T := 5) MM) (hE MM)) rfl rfl ⟨fun _ => II, ?_⟩) (fun h => nomatch h)
    first | rw [decide_eq_false h4] | rw [decide_eq_true h4]
    refine WP 7 ?_
    refine WH.only 8 rfl rfl (by kernel_rfl) rfl (OP.store rfl rfl rfl rfl rfl rfl rfl UP rfl ⟨(fun h => nomatch h), ?_⟩)
    refine WP 9 ?_
    refine DN ?_
    repeat (first | refine GD ?_ | refine NW fun _ => ?_)
    refine retc2 rfl rfl rfl rfl rfl (HasCut.ent (n := 4) HC).1 ⟨[], ⟨?_, rfl⟩, II⟩
    unfold HeadPost
    rw [hdR]
    first
      | rw [if_neg (fun h => h4 (hok.1 h))]; exact ⟨⟨xy1, xy2, xy3, xy4⟩, rfl⟩
      | rw [if_pos (hok.2 h4)]; exact rfl
end Go.Proofs.YtacgheafbkfciabGreatDoor
/- Contracts of functions of the given program, and plain laws on what they compute: parts of the proofs of laws. -/

namespace Go.Proofs.YtacgheafbkfciabGreatDoor
open Go Go.GL

/-! the journal: which head counts -/
def nz (x : UInt8) : Bool := decide (x ≠ 0)
def idxNZ (l : List UInt8) : Int := if l.any nz = true then (l.findIdx nz : Int) else -1
theorem new1_ro (x : UInt8) : RO G 84 [byteV x] (fun _ => True) (.bool (nz x)) := by
  refine RO.enter Tryz.func84 rfl (by decide) rfl Tryz.ntmps84 rfl (fun A hu hA => ?_) (fun _ _ _ h => h)
  have e : nz x = decide (¬ (x.toNat : Int) = 0) := by
    unfold nz
    by_cases h : x = 0
    · subst h; rfl
    · rw [decide_eq_true h, decide_eq_true]
      intro h2
      exact h (UInt8.toNat_inj.1 (by have : x.toNat = 0 := by omega
                                     rw [this]; rfl))
  rw [e]
  have hx := x.toNat_lt
  unfold byteV
  by_cases h0 : (x.toNat : Int) = 0
  · rw [decide_eq_false (not_not_intro h0)]
    repeat (first | refine GD ?_ | refine NW fun _ => ?_)
    exact ret1 rfl ⟨rfl, MM⟩
  · rw [decide_eq_true h0]
    repeat (first | refine GD ?_ | refine NW fun _ => ?_)
    exact ret1 rfl ⟨rfl, MM⟩
theorem any_take (l : List UInt8) (k : Nat) (h : k < l.length) : (l.take (k + 1)).any nz = ((l.take k).any nz || nz l[k]) := by
  rw [← List.take_append_getElem h, List.any_append]; simp only [List.any_cons, List.any_nil, Bool.or_false]
theorem find_at (l : List UInt8) (k : Nat) (h : k < l.length) (h1 : (l.take k).any nz = false) (h2 : nz l[k] = true) : idxNZ l = k := by
  have h3 : l.any nz = true := List.any_eq_true.2 ⟨l[k], List.getElem_mem h, h2⟩
  unfold idxNZ
  rw [if_pos h3]
  congr 1
  rw [List.findIdx_eq h]
  refine ⟨h2, fun j hj => ?_⟩
  cases hn : nz l[j]
  · rfl
  · exfalso
    have : (l.take k).any nz = true := List.any_eq_true.2 ⟨l[j], by rw [List.mem_take_iff_getElem]; exact ⟨j, by omega, rfl⟩, hn⟩
    rw [h1] at this; cases this
set_option maxHeartbeats 1000000 in
set_option maxRecDepth 10000 in
theorem idx_ro (a : Option Addr) (n c : Nat) (l : List UInt8) (hn : n = l.length) (hs : n < 1000000) : RO G 90 [.slice a n c, .func (.func 84) #[] #[]] (readS a n 1 (l.map byteV)) (.int .i64 (idxNZ l)) := by
  refine RO.enter Tryz.func90 rfl (by decide) rfl Tryz.ntmps90 rfl (fun A hu hA => ?_) (up_readS _ _ _ _)
  have hE : ∀ {L}, A ∈ L → Ent L (readS a n 1 (l.map byteV)) := fun m => Ent.mem m hu hA
  repeat (first | refine GO ?_ | refine NW fun _ => ?_)
  refine WC.loop (σ := Nat) (fun k => k ≤ l.length ∧ (l.take k).any nz = false)
    (fun k => [(0, .val (.slice a n c)), (1, .val (.func (.func 84) #[] #[])), (7, .val (.int .i64 n)), (8, .val (.int .i64 k))])
    (fun _ => [A]) (fun k => l.length - k) 0 ⟨Nat.zero_le _, rfl⟩ ⟨rfl, rfl, rfl, rfl, trivial⟩ (Imp.refl _) ?_
  rintro k ⟨hk, hz⟩
  by_cases hlt : k < l.length
  rotate_left
  · have he : k = l.length := by omega
    subst he
    rw [List.take_length] at hz
    have hi : idxNZ l = -1 := by unfold idxNZ; rw [if_neg (by rw [hz]; simp)]
    repeat (first | refine GD ?_ | refine NW fun _ => ?_)
    refine ret1 rfl ⟨?_, MM⟩
    rw [hi]
  have hsn := any_take l k hlt
  have hfa := find_at l k hlt hz
  refine WC.fact (Ent.some (hE MM) (by omega)) ?_
  rintro ⟨b, off, rfl⟩
  repeat (first | refine GD ?_ | refine NW fun _ => ?_)
  refine WL.step rfl (OP.load1 (v := byteV l[k]) rfl rfl rfl rfl (Ent.elem (i := k * 1) (hE MM) rfl (by simp [hlt])) rfl rfl ?_)
  refine WL.step rfl (OP.callVRO (vs := [byteV l[k]]) (caps := []) rfl rfl rfl (new1_ro l[k]) (fun _ _ => trivial) rfl rfl ?_)
  cases hnz : nz l[k]
  · repeat (first | refine GD ?_ | refine NW fun _ => ?_)
    refine ⟨k + 1, ⟨by omega, by rw [hsn, hz, hnz]; rfl⟩, by omega, ⟨rfl, rfl, rfl, rfl, trivial⟩, Imp.refl _⟩
  · repeat (first | refine GD ?_ | refine NW fun _ => ?_)
    refine ret1 rfl ⟨?_, MM⟩
    rw [hfa hnz]
theorem idx_nn (l : List UInt8) : decide (0 ≤ idxNZ l) = l.any nz := by
  unfold idxNZ
  cases h : l.any nz
  · rw [if_neg (by simp)]; rfl
  · rw [if_pos rfl]; exact decide_eq_true (by omega)
set_option maxRecDepth 10000 in
theorem contains_ro (a : Option Addr) (n c : Nat) (l : List UInt8) (hn : n = l.length) (hs : n < 1000000) : RO G 83 [.slice a n c, .func (.func 84) #[] #[]] (readS a n 1 (l.map byteV)) (.bool (l.any nz)) := by
  refine RO.enter Tryz.func83 rfl (by decide) rfl Tryz.ntmps83 rfl (fun A hu hA => ?_) (up_readS _ _ _ _)
  repeat (first | refine GO ?_ | refine NW fun _ => ?_)
  refine WL.step rfl (OP.callRO rfl rfl (idx_ro a n c l hn hs) (Ent.mem MM hu hA) rfl rfl ?_)
  rw [← idx_nn]
  by_cases h : 0 ≤ idxNZ l
  · rw [decide_eq_true h]
    repeat (first | refine GD ?_ | refine NW fun _ => ?_)
    exact ret1 rfl ⟨rfl, MM⟩
  · rw [decide_eq_false h]
    repeat (first | refine GD ?_ | refine NW fun _ => ?_)
    exact ret1 rfl ⟨rfl, MM⟩
theorem any_zero {l : List UInt8} (h : l.length = 64) : l.any nz = !decide (l = zero64) := by
  by_cases e : l = zero64
  · subst e; rfl
  · rw [decide_eq_false e]
    cases ha : l.any nz
    · exfalso
      apply e
      apply List.eq_replicate_iff.2 ⟨h, fun b hb => ?_⟩
      have := List.any_eq_false.1 ha b hb
      unfold nz at this
      simpa using this
    · rfl
/-- what newest knows behind k slots: the head, are both zero so far, is there one -/
def nst (D : Dsk) : Nat → Hd × Bool × Bool
  | 0 => (hd0, true, false)
  | k + 1 =>
    let s := nst D k
    let z := s.2.1 && decide (D.cur k = zero64)
    match headOf (D.cur k) k with
    | some x => if s.2.2 = false ∨ s.1.turn < x.turn then (x, z, true) else (s.1, z, s.2.2)
    | none => (s.1, z, s.2.2)
theorem nst_two (D : Dsk) : newestM (D.cur 0) (D.cur 1) = if ((nst D 2).2.2 || (nst D 2).2.1) = true then some (nst D 2).1 else none := by
  unfold newestM
  simp only [nst]
  push_cast
  cases h0 : headOf (D.cur 0) 0 <;> cases h1 : headOf (D.cur 1) 1 <;> simp only []
  · by_cases z0 : D.cur 0 = zero64 <;> by_cases z1 : D.cur 1 = zero64 <;> simp [z0, z1]
  · simp
  · simp
  · rename_i x y
    by_cases h : x.turn < y.turn
    · simp [h]
    · simp [h]
def NewHdP (o : Option Hd) (v : Value) : Prop := match o with
  | some h => v = .tuple #[.agg (hdC h).toArray, .bool true]
  | none => ∃ h, v = .tuple #[.agg (hdC h).toArray, .bool false]
set_option maxHeartbeats 4000000 in
set_option maxRecDepth 10000 in
theorem newest_rt (p : Nat) (D : Dsk) (hD : D.ok) (hl : 2 ≤ D.S.length) (hw : D.W.length < 1000000) : RT G 73 [.pointer (some ⟨p, 0, none⟩)] (dsk p D) (fun v E => NewHdP (newestM (D.cur 0) (D.cur 1)) v ∧ E = []) := by
  refine RT.enter Tryz.func73 rfl (by decide) rfl Tryz.ntmps73 rfl (fun A hu hA => ?_)
  have hE : ∀ {L}, A ∈ L → Ent L (dsk p D) := fun m => Ent.mem m hu hA
  rw [nst_two]
  repeat (first | refine GO ?_ | refine NW fun _ => ?_)
  rename_i b2 b4
  refine WC.loop (σ := Nat) (fun k => k ≤ 2)
    (fun k => [(0, .val (.pointer (some ⟨p, 0, none⟩))), (2, .val (.pointer (some ⟨b2, 0, none⟩))), (4, .val (.pointer (some ⟨b4, 0, none⟩))), (5, .val (.bool (nst D k).2.1)), (6, .val (.bool (nst D k).2.2)), (13, .val (.int .i64 k))])
    (fun k => [blk b4 (hdC (nst D k).1) 93, blk b2 [.int .i64 0, .int .i64 0, .int .i64 0, .int .i64 0] 93, A]) (fun k => 2 - k) 0 (by omega) ⟨rfl, rfl, rfl, rfl, rfl, rfl, trivial⟩ (Imp.refl _) ?_
  rintro k hk
  by_cases hlt : k < 2
  rotate_left
  · have he : k = 2 := by omega
    subst he
    generalize nst D 2 = s
    obtain ⟨h, z, f⟩ := s
    dsimp only
    cases f <;> cases z
    all_goals
      repeat (first | refine GD ?_ | refine NW fun _ => ?_)
      refine retc2 rfl rfl rfl rfl rfl (HasCut.ent (n := 4) HC).1 ⟨[], ⟨?_, rfl⟩, II⟩
      first | exact rfl | exact ⟨h, rfl⟩
  have hsn : nst D (k + 1) = (match headOf (D.cur k) k with
    | some x => if (nst D k).2.2 = false ∨ (nst D k).1.turn < x.turn then (x, (nst D k).2.1 && decide (D.cur k = zero64), true) else ((nst D k).1, (nst D k).2.1 && decide (D.cur k = zero64), (nst D k).2.2)
    | none => ((nst D k).1, (nst D k).2.1 && decide (D.cur k = zero64), (nst D k).2.2)) := rfl
  generalize nst D k = s at *
  obtain ⟨h, z, f⟩ := s
  dsimp only at hsn ⊢
  have h64 := Dsk.cur_64 hD (show k < D.S.length by omega)
  repeat (first | refine GD ?_ | refine NW fun _ => ?_)
  refine WL.step rfl (OP.callRT rfl rfl (dread_rt p D k hD hw) (hE MM) rfl rfl ?_)
  intro v E hRd
  unfold DReadPost at hRd
  rw [if_pos (by omega), Int.toNat_natCast] at hRd
  obtain ⟨br, rfl, rfl⟩ := hRd
  generalize D.cur k = l at *
  have hcon := contains_ro (some ⟨br, 0, none⟩) 64 64 l h64.symm (by decide)
  rw [any_zero h64] at hcon
  have hho := headOf_rt (some ⟨br, 0, none⟩) 64 64 l k h64.symm (Nat.le_refl _) (by decide)
  cases z with
  | false =>
    rw [Bool.false_and] at hsn
    repeat (first | refine GD ?_ | refine NW fun _ => ?_)
    refine WL.step rfl (OP.callRT rfl rfl hho (Ent.at (up_readS _ _ _ _) MM) rfl rfl ?_)
    rintro v E ⟨hH, rfl⟩
    unfold HeadPost at hH
    cases hq : headOf l k with
    | none =>
      rw [hq] at hH hsn
      obtain ⟨h', rfl⟩ := hH
      dsimp only at hsn
      repeat (first | refine GD ?_ | refine NW fun _ => ?_)
      exact ⟨k + 1, by omega, by omega, ⟨rfl, rfl, rfl, by rw [hsn]; rfl, by rw [hsn]; rfl, rfl, trivial⟩, by rw [hsn]; exact II⟩
    | some x =>
      rw [hq] at hH hsn
      obtain rfl := hH
      dsimp only at hsn
      cases f with
      | false =>
        rw [if_pos (.inl rfl)] at hsn
        repeat (first | refine GD ?_ | refine NW fun _ => ?_)
        exact ⟨k + 1, by omega, by omega, ⟨rfl, rfl, rfl, by rw [hsn]; rfl, by rw [hsn]; rfl, rfl, trivial⟩, by rw [hsn]; exact II⟩
      | true =>
        by_cases hlt2 : h.turn < x.turn
        · rw [if_pos (.inr hlt2)] at hsn
          repeat (first | refine GD ?_ | refine NW fun _ => ?_)
          exact ⟨k + 1, by omega, by omega, ⟨rfl, rfl, rfl, by rw [hsn]; rfl, by rw [hsn]; rfl, rfl, trivial⟩, by rw [hsn]; exact II⟩
        · rw [if_neg (by simp [hlt2])] at hsn
          repeat (first | refine GD ?_ | refine NW fun _ => ?_)
          exact ⟨k + 1, by omega, by omega, ⟨rfl, rfl, rfl, by rw [hsn]; rfl, by rw [hsn]; rfl, rfl, trivial⟩, by rw [hsn]; exact II⟩
  | true =>
    rw [Bool.true_and] at hsn
    repeat (first | refine GD ?_ | refine NW fun _ => ?_)
    refine WL.guardT rfl rfl rfl rfl (OP.callRO rfl rfl hcon (Ent.at (up_readS _ _ _ _) MM) rfl rfl ?_)
    by_cases hl0 : l = zero64
    · rw [decide_eq_true hl0] at hsn ⊢
      repeat (first | refine GD ?_ | refine NW fun _ => ?_)
      refine WL.step rfl (OP.callRT rfl rfl hho (Ent.at (up_readS _ _ _ _) MM) rfl rfl ?_)
      rintro v E ⟨hH, rfl⟩
      unfold HeadPost at hH
      cases hq : headOf l k with
      | none =>
        rw [hq] at hH hsn
        obtain ⟨h', rfl⟩ := hH
        dsimp only at hsn
        repeat (first | refine GD ?_ | refine NW fun _ => ?_)
        exact ⟨k + 1, by omega, by omega, ⟨rfl, rfl, rfl, by rw [hsn]; rfl, by rw [hsn]; rfl, rfl, trivial⟩, by rw [hsn]; exact II⟩
      | some x =>
        rw [hq] at hH hsn
        obtain rfl := hH
        dsimp only at hsn
        cases f with
        | false =>
          rw [if_pos (.inl rfl)] at hsn
          repeat (first | refine GD ?_ | refine NW fun _ => ?_)
          exact ⟨k + 1, by omega, by omega, ⟨rfl, rfl, rfl, by rw [hsn]; rfl, by rw [hsn]; rfl, rfl, trivial⟩, by rw [hsn]; exact II⟩
        | true =>
          by_cases hlt2 : h.turn < x.turn
          · rw [if_pos (.inr hlt2)] at hsn
            repeat (first | refine GD ?_ | refine NW fun _ => ?_)
            exact ⟨k + 1, by omega, by omega, ⟨rfl, rfl, rfl, by rw [hsn]; rfl, by rw [hsn]; rfl, rfl, trivial⟩, by rw [hsn]; exact II⟩
          · rw [if_neg (by simp [hlt2])] at hsn
            repeat (first | refine GD ?_ | refine NW fun _ => ?_)
            exact ⟨k + 1, by omega, by omega, ⟨rfl, rfl, rfl, by rw [hsn]; rfl, by rw [hsn]; rfl, rfl, trivial⟩, by rw [hsn]; exact II⟩
    · rw [decide_eq_false hl0] at hsn ⊢
      repeat (first | refine GD ?_ | refine NW fun _ => ?_)
      refine WL.step rfl (OP.callRT rfl rfl hho (Ent.at (up_readS _ _ _ _) MM) rfl rfl ?_)
      rintro v E ⟨hH, rfl⟩
      unfold HeadPost at hH
      cases hq : headOf l k with
      | none =>
        rw [hq] at hH hsn
        obtain ⟨h', rfl⟩ := hH
        dsimp only at hsn
        repeat (first | refine GD ?_ | refine NW fun _ => ?_)
        exact ⟨k + 1, by omega, by omega, ⟨rfl, rfl, rfl, by rw [hsn]; rfl, by rw [hsn]; rfl, rfl, trivial⟩, by rw [hsn]; exact II⟩
      | some x =>
        rw [hq] at hH hsn
        obtain rfl := hH
        dsimp only at hsn
        cases f with
        | false =>
          rw [if_pos (.inl rfl)] at hsn
          repeat (first | refine GD ?_ | refine NW fun _ => ?_)
          exact ⟨k + 1, by omega, by omega, ⟨rfl, rfl, rfl, by rw [hsn]; rfl, by rw [hsn]; rfl, rfl, trivial⟩, by rw [hsn]; exact II⟩
        | true =>
          by_cases hlt2 : h.turn < x.turn
          · rw [if_pos (.inr hlt2)] at hsn
            repeat (first | refine GD ?_ | refine NW fun _ => ?_)
            exact ⟨k + 1, by omega, by omega, ⟨rfl, rfl, rfl, by rw [hsn]; rfl, by rw [hsn]; rfl, rfl, trivial⟩, by rw [hsn]; exact II⟩
          · rw [if_neg (by simp [hlt2])] at hsn
            repeat (first | refine GD ?_ | refine NW fun _ => ?_)
            exact ⟨k + 1, by omega, by omega, ⟨rfl, rfl, rfl, by rw [hsn]; rfl, by rw [hsn]; rfl, rfl, trivial⟩, by rw [hsn]; exact II⟩
end Go.Proofs.YtacgheafbkfciabGreatDoor
/- Contracts of functions of the given program, and plain laws on what they compute: parts of the proofs of laws. -/

namespace Go.Proofs.YtacgheafbkfciabGreatDoor
open Go Go.GL

/-! the journal itself -/
def heldC (x : Held) : List Value := .int .i64 x.1 :: encR x.2
def jrnL (j p : Nat) (J : Jrn) (x : Option Addr × Nat) : List Assn :=
  [blk j [.pointer (some ⟨p, 0, none⟩), .int .i64 J.ring, .int .i64 J.hd.turn, .int .i64 J.hd.first, .int .i64 J.hd.gen, .int .i64 J.hd.low, .slice x.1 J.held.length x.2] 96,
   ownS x.1 J.held.length x.2 100 6 (J.held.flatMap heldC)]
def jrn (j p : Nat) (J : Jrn) : Assn := exA (jrnL j p J)
theorem up_jrn (j p : Nat) (J : Jrn) : Up (jrn j p J) := up_exA _
theorem jrnFold (j p : Nat) (J : Jrn) (x : Option Addr × Nat) {N : List Assn} : Imp
    (blk j [.pointer (some ⟨p, 0, none⟩), .int .i64 J.ring, .int .i64 J.hd.turn, .int .i64 J.hd.first, .int .i64 J.hd.gen, .int .i64 J.hd.low, .slice x.1 J.held.length x.2] 96 ::
      ownS x.1 J.held.length x.2 100 6 (J.held.flatMap heldC) :: N) (jrn j p J :: N) := Imp.fold (Ls := jrnL j p J) x
theorem heldC_len (x : Held) : (heldC x).length = 6 := rfl
structure Jrn.rng (J : Jrn) : Prop where
  ring : 1 ≤ J.ring ∧ J.ring ≤ 512
  len : J.held.length ≤ J.ring
  turn : 0 ≤ J.hd.turn ∧ J.hd.turn ≤ 4611686018427387904
  first : 0 ≤ J.hd.first ∧ J.hd.first ≤ 4611686018427387904
  gen : 0 ≤ J.hd.gen ∧ J.hd.gen ≤ 4611686018427387904
set_option maxRecDepth 10000 in
theorem jnext_ro (j p : Nat) (J : Jrn) (hJ : J.rng) : RO G 35 [.pointer (some ⟨j, 0, none⟩)] (jrn j p J) (.int .i64 J.next) := by
  refine RO.enterEx Tryz.func35 rfl (by decide) rfl Tryz.ntmps35 rfl (fun x A hu hA => ?_)
  have hB : ∀ {L}, A ∈ L → Ent L (cellsAt j 0 [.pointer (some ⟨p, 0, none⟩), .int .i64 J.ring, .int .i64 J.hd.turn, .int .i64 J.hd.first, .int .i64 J.hd.gen, .int .i64 J.hd.low, .slice x.1 J.held.length x.2]) := fun m => Ent.of hu hA m (Ent.whole (List.Mem.head _))
  obtain ⟨⟨r1, r2⟩, hlen, ⟨t1, t2⟩, ⟨f1, f2⟩, ⟨g1, g2⟩⟩ := hJ
  repeat (first | refine GD ?_ | refine NW fun _ => ?_)
  refine RD 12 12 (_) ?_
  refine WP 0 ?_
  refine WP 1 ?_
  refine WP 2 ?_
  refine WP 3 ?_
  refine VL 4 (.int .i64 J.hd.first) rfl rfl rfl rfl (.inl ⟨rfl, Ent.one (i := 3) (hB MM) rfl⟩) ?_
  refine WP 5 ?_
  refine WP 6 ?_
  refine WP 7 ?_
  refine VL 8 (.slice x.1 J.held.length x.2) rfl rfl rfl rfl (.inl ⟨rfl, Ent.one (i := 6) (hB MM) rfl⟩) ?_
  refine WP 9 ?_
  refine WP 10 ?_
  refine WP 11 ?_
  refine DN ?_
  repeat (first | refine GD ?_ | refine NW fun _ => ?_)
  exact ret1 rfl ⟨rfl, MM⟩
set_option maxRecDepth 10000 in
theorem jroom_ro (j p : Nat) (J : Jrn) (hJ : J.rng) : RO G 27 [.pointer (some ⟨j, 0, none⟩)] (jrn j p J) (.int .i64 ((J.ring : Int) - J.held.length)) := by
  refine RO.enterEx Tryz.func27 rfl (by decide) rfl Tryz.ntmps27 rfl (fun x A hu hA => ?_)
  have hB : ∀ {L}, A ∈ L → Ent L (cellsAt j 0 [.pointer (some ⟨p, 0, none⟩), .int .i64 J.ring, .int .i64 J.hd.turn, .int .i64 J.hd.first, .int .i64 J.hd.gen, .int .i64 J.hd.low, .slice x.1 J.held.length x.2]) := fun m => Ent.of hu hA m (Ent.whole (List.Mem.head _))
  obtain ⟨⟨r1, r2⟩, hlen, ⟨t1, t2⟩, ⟨f1, f2⟩, ⟨g1, g2⟩⟩ := hJ
  repeat (first | refine GD ?_ | refine NW fun _ => ?_)
  refine RD 11 11 (_) ?_
  refine WP 0 ?_
  refine WP 1 ?_
  refine WP 2 ?_
  refine VL 3 (.int .i64 J.ring) rfl rfl rfl rfl (.inl ⟨rfl, Ent.one (i := 1) (hB MM) rfl⟩) ?_
  refine WP 4 ?_
  refine WP 5 ?_
  refine WP 6 ?_
  refine VL 7 (.slice x.1 J.held.length x.2) rfl rfl rfl rfl (.inl ⟨rfl, Ent.one (i := 6) (hB MM) rfl⟩) ?_
  refine WP 8 ?_
  refine WP 9 ?_
  refine WP 10 ?_
  refine DN ?_
  repeat (first | refine GD ?_ | refine NW fun _ => ?_)
  exact ret1 rfl ⟨rfl, MM⟩
set_option maxRecDepth 10000 in
theorem jat_ro (j p : Nat) (J : Jrn) (hr : 1 ≤ J.ring ∧ J.ring ≤ 512) (seq : Int) (hs : 0 ≤ seq ∧ seq ≤ 9223372036854775807) : RO G 38 [.pointer (some ⟨j, 0, none⟩), .int .i64 seq] (jrn j p J) (.int .i64 (posM J.ring seq)) := by
  refine RO.enterEx Tryz.func38 rfl (by decide) rfl Tryz.ntmps38 rfl (fun x A hu hA => ?_)
  have hB : ∀ {L}, A ∈ L → Ent L (cellsAt j 0 [.pointer (some ⟨p, 0, none⟩), .int .i64 J.ring, .int .i64 J.hd.turn, .int .i64 J.hd.first, .int .i64 J.hd.gen, .int .i64 J.hd.low, .slice x.1 J.held.length x.2]) := fun m => Ent.of hu hA m (Ent.whole (List.Mem.head _))
  obtain ⟨r1, r2⟩ := hr
  have hm := Int.emod_nonneg seq (b := (J.ring : Int)) (by omega)
  have hm2 := Int.emod_lt_of_pos seq (b := (J.ring : Int)) (by omega)
  have e : ((posM J.ring seq : Nat) : Int) = 2 + seq % J.ring := by unfold posM; omega
  rw [e]
  repeat (first | refine GO ?_ | refine NW fun _ => ?_)
  refine WL.step rfl (OP.load1 (v := .int .i64 J.ring) rfl rfl rfl rfl (Ent.one (i := 1) (hB MM) rfl) rfl rfl ?_)
  repeat (first | refine GO ?_ | refine NW fun _ => ?_)
  exact ret1 rfl ⟨rfl, MM⟩
set_option maxHeartbeats 1000000 in
set_option maxRecDepth 10000 in
theorem jsave_ok (j p : Nat) (J : Jrn) (D : Dsk) (hJ : 0 ≤ J.hd.turn ∧ J.hd.turn ≤ 4611686018427387904) (hD : D.ok) (hl : 2 ≤ D.S.length) (hw : D.W.length < 10000) :
    Triple G 75 [.pointer (some ⟨j, 0, none⟩)] [jrn j p J, dsk p D] (fun v M => v = .tuple #[] ∧ M = [jrn j p { J with hd := J.hd.up }, dsk p (saveM D J.hd.up)]) := by
  refine Triple.enter Tryz.func75 rfl (by decide) rfl Tryz.ntmps75 rfl (fun F => ?_)
  refine WC.open P1 (fun x => ?_)
  unfold jrnL
  dsimp only [List.cons_append, List.nil_append]
  have hu : J.hd.up = ⟨J.hd.turn + 1, J.hd.first, J.hd.gen, J.hd.low⟩ := rfl
  have hb := headS_len J.hd.up
  have hi : (0 ≤ (J.hd.turn + 1) % 2 ∧ (J.hd.turn + 1) % 2 < D.S.length) ∧ (headS J.hd.up).length = 64 := ⟨by omega, hb⟩
  have hws := dwrite_ok p D ((J.hd.turn + 1) % 2) (headS J.hd.up)
  repeat (first | refine GO ?_ | refine NW fun _ => ?_)
  refine RD 15 16 (_) ?_
  refine WP 0 ?_
  refine WP 1 ?_
  refine WP 2 ?_
  refine VV 3 ?_
  refine WP 4 ?_
  refine WP 5 ?_
  refine WP 6 ?_
  refine WP 7 ?_
  refine VV 8 ?_
  refine WP 9 ?_
  refine WP 10 ?_
  refine WP 11 ?_
  refine WP 12 ?_
  refine VV 13 ?_
  refine WH.only 14 rfl rfl (by kernel_rfl) rfl (OP.callRT rfl rfl (hsector_rt J.hd.up) (fun _ _ => trivial) rfl rfl (fun v E hE' => ?_))
  obtain ⟨a6, cap6, rfl, rfl⟩ := hE'
  refine ⟨fun _ => II, ?_⟩
  refine WH.only 15 rfl rfl (by kernel_rfl) rfl (OP.call (pre := [dsk p D, ownS a6 (headS J.hd.up).length cap6 5 1 ((headS J.hd.up).map byteV)]) rfl rfl (hws a6 cap6 (by omega) (by omega)) PS rfl rfl (fun v M hM => ?_))
  unfold WrPost at hM
  rw [if_pos hi] at hM
  obtain ⟨rfl, rfl⟩ := hM
  refine ⟨(fun h => nomatch h), ?_⟩
  refine DN ?_
  repeat (first | refine GO ?_ | refine NW fun _ => ?_)
  refine WL.step rfl (OP.call (pre := [dsk p (D.put ((J.hd.turn + 1) % 2).toNat (headS J.hd.up))]) rfl rfl (dflush_ok p _ (Dsk.put_ok hD (by omega) hb) (by simp [Dsk.put]; omega)) PS rfl rfl ?_)
  rintro _ _ ⟨rfl, rfl⟩
  repeat (first | refine GO ?_ | refine NW fun _ => ?_)
  refine ret0n ⟨_, ⟨rfl, rfl⟩, Imp.foldP (N := [dsk p (saveM D J.hd.up), F]) x ?_ II⟩
  unfold jrnL
  exact (by repeat (first | exact Picks.nil _ | apply Picks.cons | exact Pick.here _ _ | apply Pick.there))
end Go.Proofs.YtacgheafbkfciabGreatDoor
