/- Contracts of functions of the given program, and plain laws on what they compute: parts of the proofs of laws. -/
import Derived.Test.YtkoakmaihcheaabDoorGLt
import Derived.Test.YtkoakmaihcheaabDoorM6

namespace Go.Proofs.YtkoakmaihcheaabDoor
open Go Go.GL

set_option maxRecDepth 10000 in
theorem add_ok (p : Nat) (a : Option Addr) (cap : Nat) (f : List Bool) (ch : List Ch) (v m : Int) (hf : f.length = 4) (hv : Vols ch) (hs : ch.length ≤ 100) :
    Triple G 25 [.pointer (some ⟨p, 0, none⟩), .int .i64 v, .int .i64 m] (grpL p a ch.length cap f ch) (PutPost p a cap f ch (m, v, false)) := by
  refine Triple.enter Tryd.func25 rfl (by decide) rfl Tryd.ntmps25 rfl (fun F => ?_)
  repeat (first | refine GO ?_ | refine NW fun _ => ?_)
  refine WL.step rfl (OP.call (pre := grpL p a ch.length cap f ch) (F := [F]) rfl rfl (put_ok p a cap f ch (m, v, false) hf hv hs) (Imp.refl _) rfl rfl ?_)
  rintro v' M hM
  repeat (first | refine GO ?_ | refine NW fun _ => ?_)
  exact ret1 rfl ⟨M, hM, Imp.refl _⟩
set_option maxRecDepth 10000 in
theorem remove_ok (p : Nat) (a : Option Addr) (cap : Nat) (f : List Bool) (ch : List Ch) (v m : Int) (hf : f.length = 4) (hv : Vols ch) (hs : ch.length ≤ 100) :
    Triple G 27 [.pointer (some ⟨p, 0, none⟩), .int .i64 v, .int .i64 m] (grpL p a ch.length cap f ch) (PutPost p a cap f ch (m, v, true)) := by
  refine Triple.enter Tryd.func27 rfl (by decide) rfl Tryd.ntmps27 rfl (fun F => ?_)
  repeat (first | refine GO ?_ | refine NW fun _ => ?_)
  refine WL.step rfl (OP.call (pre := grpL p a ch.length cap f ch) (F := [F]) rfl rfl (put_ok p a cap f ch (m, v, true) hf hv hs) (Imp.refl _) rfl rfl ?_)
  rintro v' M hM
  repeat (first | refine GO ?_ | refine NW fun _ => ?_)
  exact ret1 rfl ⟨M, hM, Imp.refl _⟩
set_option maxRecDepth 10000 in
theorem now_ok (p : Nat) (a : Option Addr) (cap : Nat) (f : List Bool) (ch : List Ch) (hf : f.length = 4) (hv : Vols ch) (hc : ch.length ≤ cap) (hs : ch.length < 1000000) :
    RT G 30 [.pointer (some ⟨p, 0, none⟩)] (grpR p a cap f ch) (Ints (listM (after f ch))) := by
  refine RT.enter Tryd.func30 rfl (by decide) rfl Tryd.ntmps30 rfl (fun A hu hA => ?_)
  have hE1 : ∀ {L}, A ∈ L → Ent L (cellsAt p 0 (bools f ++ [.slice a ch.length cap])) := fun m => Ent.mem m hu fun k x => (hA k x).1
  have hg : (bools f ++ [Value.slice a ch.length cap])[4]? = some (.slice a ch.length cap) := by
    obtain ⟨f0, f1, f2, f3, rfl⟩ := four hf; rfl
  repeat (first | refine GO ?_ | refine NW fun _ => ?_)
  refine WL.step rfl (OP.load1 (v := .slice a ch.length cap) rfl rfl rfl rfl (Ent.one (i := 4) (hE1 MM) hg) rfl rfl ?_)
  repeat (first | refine GO ?_ | refine NW fun _ => ?_)
  have hbeh := behind_ro p a cap f ch ch.length hf hv (Nat.le_refl _) hc hs
  rw [List.take_length] at hbeh
  refine WL.step rfl (OP.callRO rfl rfl hbeh (Ent.mem MM hu hA) rfl rfl ?_)
  refine WL.step rfl (OP.callRT rfl rfl (list_ok _ (by rw [after_length, hf])) (fun _ _ => trivial) rfl rfl ?_)
  rintro v E hE
  repeat (first | refine GO ?_ | refine NW fun _ => ?_)
  exact ret1 rfl ⟨E, hE, Imp.refl _⟩
set_option maxRecDepth 10000 in
theorem same_ro (a a' : Option Addr) (n c n' c' : Nat) (l l' : List Int) (hn : n = l.length) (hn' : n' = l'.length) (hs : n < 1000000) (hs' : n' < 1000000) :
    RO G 13 [.slice a n c, .slice a' n' c'] (fun h => readS a n 1 (l.map vI) h ∧ readS a' n' 1 (l'.map vI) h) (.bool (decide (l = l'))) := by
  refine RO.enter Tryd.func13 rfl (by decide) rfl Tryd.ntmps13 rfl (fun A hu hA => ?_) (up_and (up_readS _ _ _ _) (up_readS _ _ _ _))
  have hE1 : ∀ {L}, A ∈ L → Ent L (readS a n 1 (l.map vI)) := fun m => Ent.mem m hu fun k x => (hA k x).1
  have hE2 : ∀ {L}, A ∈ L → Ent L (readS a' n' 1 (l'.map vI)) := fun m => Ent.mem m hu fun k x => (hA k x).2
  by_cases hne : n = n'
  rotate_left
  · repeat (first | refine GD ?_ | refine NW fun _ => ?_)
    refine ret1 rfl ⟨?_, MM⟩
    have : l ≠ l' := fun e => hne (by rw [hn, hn', e])
    simp [this]
  subst hne
  repeat (first | refine GD ?_ | refine NW fun _ => ?_)
  refine WC.loop (σ := Nat) (fun k => k ≤ n ∧ ∀ j, j < k → l[j]? = l'[j]?)
    (fun k => [(0, .val (.slice a n c)), (1, .val (.slice a' n c')), (12, .val (.int .i64 n)), (13, .val (.int .i64 k))])
    (fun k => [A]) (fun k => n - k) 0 ⟨Nat.zero_le _, fun j hj => by omega⟩ ⟨rfl, rfl, rfl, rfl, trivial⟩ (Imp.refl _) ?_
  rintro k ⟨hk, hall⟩
  by_cases hlt : k < n
  rotate_left
  · repeat (first | refine GD ?_ | refine NW fun _ => ?_)
    refine ret1 rfl ⟨?_, MM⟩
    have : l = l' := List.ext_getElem? fun i => by
      by_cases hi : i < k
      · exact hall i hi
      · rw [List.getElem?_eq_none (by omega), List.getElem?_eq_none (by omega)]
    simp [this]
  have hl1 : k < l.length := by omega
  have hl2 : k < l'.length := by omega
  repeat (first | refine GD ?_ | refine NW fun _ => ?_)
  refine WC.fact (Ent.some (hE1 MM) (by omega)) ?_
  rintro ⟨b, off, rfl⟩
  refine WC.fact (Ent.some (hE2 MM) (by omega)) ?_
  rintro ⟨b', off', rfl⟩
  refine RD 9 9 (_) ?_
  refine WW 0 ?_; refine WW 1 ?_; refine WW 2 ?_
  refine VL 3 (.int .i64 l[k]) rfl rfl rfl rfl (.inl ⟨rfl, Ent.elem (i := k * 1) (hE1 MM) rfl (by simp [vI, hl1])⟩) ?_
  refine WW 4 ?_; refine WW 5 ?_; refine WW 6 ?_
  refine VL 7 (.int .i64 l'[k]) rfl rfl rfl rfl (.inl ⟨rfl, Ent.elem (i := k * 1) (hE2 MM) rfl (by simp [vI, hl2])⟩) ?_
  refine WW 8 ?_
  refine DN ?_
  by_cases he : l[k] = l'[k]
  · simp only [he, decide_true]
    repeat (first | refine GO ?_ | refine NW fun _ => ?_)
    exact ⟨k + 1, ⟨by omega, fun j hj => by
      by_cases e : j = k
      · subst e; rw [List.getElem?_eq_getElem hl1, List.getElem?_eq_getElem hl2, he]
      · exact hall j (by omega)⟩, by omega, ⟨rfl, rfl, rfl, rfl, trivial⟩, Imp.refl _⟩
  · simp only [he, decide_false]
    repeat (first | refine GO ?_ | refine NW fun _ => ?_)
    refine ret1 rfl ⟨?_, MM⟩
    have : l ≠ l' := fun e => he (by subst e; rfl)
    simp [this]
end Go.Proofs.YtkoakmaihcheaabDoor
