/- Contracts of functions of the given program, and plain laws on what they compute: parts of the proofs of laws. -/
import Derived.Test.YtkoakmaihcheaabDoorGLt
import Derived.Test.YtkoakmaihcheaabDoorM3

namespace Go.Proofs.YtkoakmaihcheaabDoor
open Go Go.GL

/-- so many changes count at a marker -/
def cnt (m : Int) (ch : List Ch) : Nat := (ch.takeWhile (fun c => decide (c.1 ≤ m))).length
theorem cnt_le (m : Int) (ch : List Ch) : cnt m ch ≤ ch.length := by unfold cnt; exact (List.takeWhile_sublist _).length_le
theorem cnt_lt {m : Int} {ch : List Ch} {k : Nat} (h : k < ch.length) (hk : ∀ j (hj : j < k), (ch[j]'(by omega)).1 ≤ m) : (ch[k].1 ≤ m → k < cnt m ch) ∧ (¬ ch[k].1 ≤ m → cnt m ch = k) := by
  induction ch generalizing k with
  | nil => simp at h
  | cons c r ih =>
    cases k with
    | zero =>
      unfold cnt
      rw [List.takeWhile_cons]
      constructor
      · intro hc; simp only [List.getElem_cons_zero] at hc; simp [hc]
      · intro hc; simp only [List.getElem_cons_zero] at hc; simp [hc]
    | succ k =>
      have h0 := hk 0 (by omega)
      simp only [List.getElem_cons_zero] at h0
      have := ih (k := k) (by simpa using h) (fun j hj => by have := hk (j + 1) (by omega); simpa using this)
      unfold cnt at *
      rw [List.takeWhile_cons]
      simp only [h0, decide_true, if_true, List.length_cons, List.getElem_cons_succ]
      exact ⟨fun x => by have := this.1 x; omega, fun x => by have := this.2 x; omega⟩
theorem cnt_all {m : Int} {ch : List Ch} (hk : ∀ j (hj : j < ch.length), ch[j].1 ≤ m) : cnt m ch = ch.length := by
  unfold cnt
  congr 1
  have : ∀ c ∈ ch, c.1 ≤ m := fun c hc => by
    obtain ⟨i, hi, rfl⟩ := List.getElem_of_mem hc
    exact hk i hi
  clear hk
  induction ch with
  | nil => rfl
  | cons c r ih =>
    rw [List.takeWhile_cons, if_pos (by simpa using this c (List.mem_cons_self)), ih (fun x hx => this x (List.mem_cons_of_mem _ hx))]

set_option maxRecDepth 10000 in
theorem at_ok (p : Nat) (a : Option Addr) (cap : Nat) (f : List Bool) (ch : List Ch) (m : Int) (hf : f.length = 4) (hv : Vols ch) (hc : ch.length ≤ cap) (hs : ch.length < 1000000) :
    RT G 11 [.pointer (some ⟨p, 0, none⟩), .int .i64 m] (grpR p a cap f ch) (Ints (listM (after f (ch.take (cnt m ch))))) := by
  refine RT.enter Tryd.func11 rfl (by decide) rfl Tryd.ntmps11 rfl (fun A hu hA => ?_)
  have hE1 : ∀ {L}, A ∈ L → Ent L (cellsAt p 0 (bools f ++ [.slice a ch.length cap])) := fun m => Ent.mem m hu fun k x => (hA k x).1
  have hE2 : ∀ {L}, A ∈ L → Ent L (readS a ch.length 3 (encL ch)) := fun m => Ent.mem m hu fun k x => (hA k x).2
  have hg : (bools f ++ [Value.slice a ch.length cap])[4]? = some (.slice a ch.length cap) := by
    obtain ⟨f0, f1, f2, f3, rfl⟩ := four hf; rfl
  repeat (first | refine GO ?_ | refine NW fun _ => ?_)
  refine WC.loop (σ := Nat) (fun k => k ≤ ch.length ∧ ∀ j (hj : j < k) (hj2 : j < ch.length), ch[j].1 ≤ m)
    (fun k => [(0, .val (.pointer (some ⟨p, 0, none⟩))), (1, .val (.int .i64 m)), (5, .val (.int .i64 k))])
    (fun k => [A]) (fun k => ch.length - k) 0 ⟨Nat.zero_le _, fun j hj => by omega⟩ ⟨rfl, rfl, rfl, trivial⟩ (Imp.refl _) ?_
  rintro k ⟨hk, hall⟩
  repeat (first | refine GO ?_ | refine NW fun _ => ?_)
  refine WL.step rfl (OP.load1 (v := .slice a ch.length cap) rfl rfl rfl rfl (Ent.one (i := 4) (hE1 MM) hg) rfl rfl ?_)
  by_cases hlt : k < ch.length
  · repeat (first | refine GD ?_ | refine NW fun _ => ?_)
    refine WL.guardT rfl rfl rfl rfl (OP.load1 (v := .slice a ch.length cap) rfl rfl rfl rfl (Ent.one (i := 4) (hE1 MM) hg) rfl rfl ?_)
    repeat (first | refine GD ?_ | refine NW fun _ => ?_)
    refine WL.fact (Ent.some (hE2 MM) (by omega)) ?_
    rintro ⟨b, off, rfl⟩
    repeat (first | refine GD ?_ | refine NW fun _ => ?_)
    have hx := cnt_lt hlt (fun j hj => hall j hj (by omega))
    refine WL.guardT rfl rfl rfl rfl (OP.load1 (v := .int .i64 ch[k].1) rfl rfl rfl rfl (Ent.elem (i := k * 3 + 0) (hE2 MM) rfl (encL_get _ _ _ hlt (by decide))) rfl rfl ?_)
    by_cases hm : ch[k].1 ≤ m
    · repeat (first | refine GD ?_ | refine NW fun _ => ?_)
      exact ⟨k + 1, ⟨by omega, fun j hj hj2 => by
        by_cases e : j = k
        · subst e; exact hm
        · exact hall j (by omega) hj2⟩, by omega, ⟨rfl, rfl, rfl, trivial⟩, Imp.refl _⟩
    · have hck := hx.2 hm
      repeat (first | refine GD ?_ | refine NW fun _ => ?_)
      refine WL.step rfl (OP.callRO rfl rfl (behind_ro p _ cap f ch k hf hv (by omega) hc hs) (Ent.mem MM hu hA) rfl rfl ?_)
      refine WL.step rfl (OP.callRT rfl rfl (list_ok _ (by rw [after_length, hf])) (fun _ _ => trivial) rfl rfl ?_)
      rintro v E hE
      repeat (first | refine GD ?_ | refine NW fun _ => ?_)
      exact ret1 rfl ⟨E, hck ▸ hE, Imp.refl _⟩
  · have hkn : k = ch.length := by omega
    subst hkn
    have hck : cnt m ch = ch.length := cnt_all (fun j hj => hall j hj hj)
    repeat (first | refine GD ?_ | refine NW fun _ => ?_)
    refine WL.step rfl (OP.callRO rfl rfl (behind_ro p _ cap f ch ch.length hf hv (by omega) hc hs) (Ent.mem MM hu hA) rfl rfl ?_)
    refine WL.step rfl (OP.callRT rfl rfl (list_ok _ (by rw [after_length, hf])) (fun _ _ => trivial) rfl rfl ?_)
    rintro v E hE
    repeat (first | refine GD ?_ | refine NW fun _ => ?_)
    exact ret1 rfl ⟨E, hck ▸ hE, Imp.refl _⟩
end Go.Proofs.YtkoakmaihcheaabDoor
