/- Contracts of functions of the given program, and plain laws on what they compute: parts of the proofs of laws. -/
import Derived.Test.YtkoakmaihcheaabDoorGLt
import Derived.Test.YtkoakmaihcheaabDoorM7

namespace Go.Proofs.YtkoakmaihcheaabDoor
open Go Go.GL

/-- the changes behind a put -/
def putCh (f : List Bool) (ch : List Ch) (c : Ch) : List Ch := match putM f ch c with
  | none => ch ++ [c]
  | some _ => ch
theorem Imp.dropL (E L : List Assn) : Imp (E ++ L) L := by
  induction E with
  | nil => exact Imp.refl _
  | cons x r ih => exact Imp.dropTail ih
theorem put_any {p : Nat} {a : Option Addr} {cap : Nat} {f : List Bool} {ch : List Ch} {c : Ch} {v : Value} {M : List Assn} (h : PutPost p a cap f ch c v M) :
    ∃ a' cap', Imp M (grpL p a' (putCh f ch c).length cap' f (putCh f ch c)) := by
  unfold PutPost at h
  unfold putCh
  split at h
  · rename_i code e
    rw [e]
    obtain ⟨E, _, rfl⟩ := h
    exact ⟨a, cap, Imp.dropL _ _⟩
  · rename_i e
    rw [e]
    obtain ⟨_, a', cap', rfl⟩ := h
    exact ⟨a', cap', by simp only [List.length_append, List.length_singleton]; exact Imp.refl _⟩
theorem putCh_inv {f : List Bool} {ch : List Ch} {c : Ch} (hv : Vols ch) (hs : ch.length ≤ 100) : Vols (putCh f ch c) ∧ (putCh f ch c).length ≤ 100 := by
  unfold putCh
  split
  · rename_i e
    unfold putM at e
    split at e
    · cases e
    · rename_i h1
      split at e
      · cases e
      split at e
      · cases e
      split at e
      · cases e
      split at e
      · cases e
      · refine ⟨fun x hx => ?_, by simp; omega⟩
        rcases List.mem_append.1 hx with hx | hx
        · exact hv x hx
        · simp only [List.mem_singleton] at hx; subst hx; exact Decidable.not_not.1 h1
  · exact ⟨hv, hs⟩

set_option maxRecDepth 10000 in
theorem has_ro (a : Option Addr) (n c : Nat) (l : List Int) (v : Int) (hn : n = l.length) (hs : n < 1000000) :
    RO G 12 [.slice a n c, .int .i64 v] (readS a n 1 (l.map vI)) (.bool (decide (v ∈ l))) := by
  refine RO.enter Tryd.func12 rfl (by decide) rfl Tryd.ntmps12 rfl (fun A hu hA => ?_) (up_readS _ _ _ _)
  have hE1 : ∀ {L}, A ∈ L → Ent L (readS a n 1 (l.map vI)) := fun m => Ent.mem m hu hA
  repeat (first | refine GO ?_ | refine NW fun _ => ?_)
  refine WC.loop (σ := Nat) (fun k => k ≤ n ∧ v ∉ l.take k)
    (fun k => [(0, .val (.slice a n c)), (1, .val (.int .i64 v)), (7, .val (.int .i64 n)), (8, .val (.int .i64 k))])
    (fun k => [A]) (fun k => n - k) 0 ⟨Nat.zero_le _, by simp⟩ ⟨rfl, rfl, rfl, rfl, trivial⟩ (Imp.refl _) ?_
  rintro k ⟨hk, hall⟩
  by_cases hlt : k < n
  rotate_left
  · repeat (first | refine GD ?_ | refine NW fun _ => ?_)
    refine ret1 rfl ⟨?_, MM⟩
    rw [List.take_of_length_le (by omega)] at hall
    simp [hall]
  have hl1 : k < l.length := by omega
  have htk := List.take_succ_eq_append_getElem hl1
  repeat (first | refine GD ?_ | refine NW fun _ => ?_)
  refine WL.fact (Ent.some (hE1 MM) (by omega)) ?_
  rintro ⟨b, off, rfl⟩
  repeat (first | refine GD ?_ | refine NW fun _ => ?_)
  refine WL.step rfl (OP.load1 (v := .int .i64 l[k]) rfl rfl rfl rfl (Ent.elem (hE1 MM) rfl (by simp [vI, hl1])) rfl rfl ?_)
  by_cases he : l[k] = v
  · repeat (first | refine GD ?_ | refine NW fun _ => ?_)
    refine ret1 rfl ⟨?_, MM⟩
    have : v ∈ l := he ▸ List.getElem_mem _
    simp [this]
  · repeat (first | refine GD ?_ | refine NW fun _ => ?_)
    exact ⟨k + 1, ⟨by omega, by
      rw [htk, List.mem_append, List.mem_singleton]
      rintro (h | h)
      · exact hall h
      · exact he h.symm⟩, by omega, ⟨rfl, rfl, rfl, rfl, trivial⟩, Imp.refl _⟩

abbrev Op3 := Int × Int × Int
def encO (o : Op3) : List Value := [.int .i64 o.1, .int .i64 o.2.1, .int .i64 o.2.2]
def encOs (l : List Op3) : List Value := l.flatMap encO
theorem flat_at {α : Type} (enc : α → List Value) (m : Nat) (he : ∀ x, (enc x).length = m) (l : List α) (k : Nat) (h : k < l.length) : enc l[k] = ((l.flatMap enc).drop (k * m)).take m := by
  induction l generalizing k with
  | nil => simp at h
  | cons c r ih =>
    cases k with
    | zero => simp [← he c]
    | succ k =>
      have e : (k + 1) * m = m + k * m := by rw [Nat.succ_mul, Nat.add_comm]
      have := ih k (by simpa using h)
      simp only [List.flatMap_cons, List.getElem_cons_succ]
      rw [this, e, ← List.drop_drop, List.drop_left' (he c)]
theorem flat_get {α : Type} (enc : α → List Value) (m : Nat) (he : ∀ x, (enc x).length = m) (l : List α) (k j : Nat) (h : k < l.length) (hj : j < m) : (l.flatMap enc)[k * m + j]? = (enc l[k])[j]? := by
  rw [flat_at enc m he l k h, List.getElem?_take, if_pos hj, List.getElem?_drop]
def stepO (f : List Bool) (ch : List Ch) (o : Op3) : List Ch :=
  if o.1 = 1 then putCh f ch (o.2.2, o.2.1, false) else if o.1 = 2 then putCh f ch (o.2.2, o.2.1, true) else ch
def playM (f : List Bool) (ch : List Ch) (l : List Op3) : List Ch := l.foldl (stepO f) ch
theorem stepO_inv {f : List Bool} {ch : List Ch} {o : Op3} (hv : Vols ch) (hs : ch.length ≤ 100) : Vols (stepO f ch o) ∧ (stepO f ch o).length ≤ 100 := by
  unfold stepO
  split
  · exact putCh_inv hv hs
  · split
    · exact putCh_inv hv hs
    · exact ⟨hv, hs⟩
theorem playM_snoc (f : List Bool) (ch : List Ch) (l : List Op3) (o : Op3) : playM f ch (l ++ [o]) = stepO f (playM f ch l) o := by simp [playM]
theorem playM_inv {f : List Bool} {ch : List Ch} (l : List Op3) (hv : Vols ch) (hs : ch.length ≤ 100) : Vols (playM f ch l) ∧ (playM f ch l).length ≤ 100 := by
  induction l generalizing ch with
  | nil => exact ⟨hv, hs⟩
  | cons o r ih => exact ih (stepO_inv hv hs).1 (stepO_inv hv hs).2

set_option maxHeartbeats 1000000 in
set_option maxRecDepth 10000 in
theorem play_ok (p : Nat) (a : Option Addr) (cap : Nat) (f : List Bool) (ch : List Ch) (b : Option Addr) (m c : Nat) (l : List Op3) (A : Assn) (hu : Up A) (hA : ∀ h, A h → readS b m 3 (encOs l) h) (hf : f.length = 4) (hv : Vols ch) (hs : ch.length ≤ 100) (hm : m = l.length) (hml : m < 1000000) :
    Triple G 34 [.pointer (some ⟨p, 0, none⟩), .slice b m c] (grpL p a ch.length cap f ch ++ [A]) (fun v M => v = .tuple #[] ∧ ∃ a' cap', M = grpL p a' (playM f ch l).length cap' f (playM f ch l) ++ [A]) := by
  refine Triple.enter Tryd.func34 rfl (by decide) rfl Tryd.ntmps34 rfl (fun F => ?_)
  have hE : ∀ {L}, A ∈ L → Ent L (readS b m 3 (encOs l)) := fun m => Ent.mem m hu hA
  repeat (first | refine GO ?_ | refine NW fun _ => ?_)
  refine WC.loop (σ := Nat × Option Addr × Nat × List Ch) (fun s => s.1 ≤ m ∧ s.2.2.2 = playM f ch (l.take s.1))
    (fun s => [(0, .val (.pointer (some ⟨p, 0, none⟩))), (1, .val (.slice b m c)), (6, .val (.int .i64 m)), (7, .val (.int .i64 s.1))])
    (fun s => grpL p s.2.1 s.2.2.2.length s.2.2.1 f s.2.2.2 ++ [A, F]) (fun s => m - s.1) (0, a, cap, ch) ⟨Nat.zero_le _, rfl⟩ ⟨rfl, rfl, rfl, rfl, trivial⟩ (Imp.refl _) ?_
  rintro ⟨k, a1, cap1, ch1⟩ ⟨hk, hch⟩
  dsimp only at hk hch ⊢
  obtain ⟨hv1, hs1⟩ := playM_inv (f := f) (l.take k) hv hs
  rw [← hch] at hv1 hs1
  by_cases hlt : k < m
  rotate_left
  · repeat (first | refine GD ?_ | refine NW fun _ => ?_)
    rw [List.take_of_length_le (by omega)] at hch
    subst hch
    refine blockK.hit rfl ?_
    refine ret0n ?_
    exact ⟨_, ⟨rfl, a1, cap1, rfl⟩, Imp.refl _⟩
  have hl1 : k < l.length := by omega
  have hsn := playM_snoc f ch (l.take k) l[k]
  rw [← List.take_succ_eq_append_getElem hl1, ← hch] at hsn
  have hge : ∀ j, j < 3 → (encOs l)[k * 3 + j]? = (encO l[k])[j]? := fun j hj => flat_get encO 3 (fun _ => rfl) l k j hl1 hj
  generalize l[k] = o at *
  obtain ⟨ok, ov, om⟩ := o
  repeat (first | refine GD ?_ | refine NW fun _ => ?_)
  refine WL.fact (Ent.some (hE MM) (by omega)) ?_
  rintro ⟨bb, off, rfl⟩
  repeat (first | refine GD ?_ | refine NW fun _ => ?_)
  refine WL.step rfl (OP.load1 (v := .int .i64 ok) rfl rfl rfl rfl (Ent.elem (i := k * 3 + 0) (hE MM) rfl (hge 0 (by decide))) rfl rfl ?_)
  by_cases h1 : ok = 1
  · have hst : stepO f ch1 (ok, ov, om) = putCh f ch1 (om, ov, false) := by simp [stepO, h1]
    rw [hst] at hsn
    repeat (first | refine GD ?_ | refine NW fun _ => ?_)
    refine RD 11 12 ([A]) ?_
    refine WW 0 ?_; refine WW 1 ?_; refine WW 2 ?_; refine WW 3 ?_; refine WW 4 ?_
    refine VL 5 (.int .i64 ov) rfl rfl rfl rfl (.inl ⟨rfl, Ent.elem (i := k * 3 + 1) (hE MM) rfl (hge 1 (by decide))⟩) ?_
    refine WW 6 ?_; refine WW 7 ?_; refine WW 8 ?_; refine WW 9 ?_
    refine VL 10 (.int .i64 om) rfl rfl rfl rfl (.inl ⟨rfl, Ent.elem (i := k * 3 + 2) (hE MM) rfl (hge 2 (by decide))⟩) ?_
    refine WH.only 11 rfl rfl (by kernel_rfl) rfl (OP.call (pre := grpL p a1 ch1.length cap1 f ch1) (F := [A, F]) rfl rfl (add_ok p a1 cap1 f ch1 ov om hf hv1 hs1) (Imp.refl _) rfl rfl (fun v' M hM => ⟨(fun h => nomatch h), ?_⟩))
    refine DN ?_
    obtain ⟨a2, cap2, hi⟩ := put_any hM
    repeat (first | refine GO ?_ | refine NW fun _ => ?_)
    exact ⟨(k + 1, a2, cap2, putCh f ch1 (om, ov, false)), ⟨by dsimp only; omega, hsn.symm⟩, by dsimp only; omega, ⟨rfl, rfl, rfl, rfl, trivial⟩, Imp.app hi [A, F]⟩
  · by_cases h2 : ok = 2
    · have hst : stepO f ch1 (ok, ov, om) = putCh f ch1 (om, ov, true) := by simp [stepO, h2]
      rw [hst] at hsn
      repeat (first | refine GD ?_ | refine NW fun _ => ?_)
      refine RD 11 12 ([A]) ?_
      refine WW 0 ?_; refine WW 1 ?_; refine WW 2 ?_; refine WW 3 ?_; refine WW 4 ?_
      refine VL 5 (.int .i64 ov) rfl rfl rfl rfl (.inl ⟨rfl, Ent.elem (i := k * 3 + 1) (hE MM) rfl (hge 1 (by decide))⟩) ?_
      refine WW 6 ?_; refine WW 7 ?_; refine WW 8 ?_; refine WW 9 ?_
      refine VL 10 (.int .i64 om) rfl rfl rfl rfl (.inl ⟨rfl, Ent.elem (i := k * 3 + 2) (hE MM) rfl (hge 2 (by decide))⟩) ?_
      refine WH.only 11 rfl rfl (by kernel_rfl) rfl (OP.call (pre := grpL p a1 ch1.length cap1 f ch1) (F := [A, F]) rfl rfl (remove_ok p a1 cap1 f ch1 ov om hf hv1 hs1) (Imp.refl _) rfl rfl (fun v' M hM => ⟨(fun h => nomatch h), ?_⟩))
      refine DN ?_
      obtain ⟨a2, cap2, hi⟩ := put_any hM
      repeat (first | refine GO ?_ | refine NW fun _ => ?_)
      exact ⟨(k + 1, a2, cap2, putCh f ch1 (om, ov, true)), ⟨by dsimp only; omega, hsn.symm⟩, by dsimp only; omega, ⟨rfl, rfl, rfl, rfl, trivial⟩, Imp.app hi [A, F]⟩
    · have hst : stepO f ch1 (ok, ov, om) = ch1 := by simp [stepO, h1, h2]
      rw [hst] at hsn
      repeat (first | refine GD ?_ | refine NW fun _ => ?_)
      exact ⟨(k + 1, a1, cap1, ch1), ⟨by dsimp only; omega, hsn.symm⟩, by dsimp only; omega, ⟨rfl, rfl, rfl, rfl, trivial⟩, Imp.refl _⟩
end Go.Proofs.YtkoakmaihcheaabDoor
