/- Contracts of functions of the given program, and plain laws: parts of the proofs of laws. -/
import Derived.Test.YteednjcoapmkaaaGreatDoorZVol7
import Derived.Test.YteednjcoapmkaaaGreatDoorZVol16
import Derived.Test.YteednjcoapmkaaaGreatDoorZVol21
/- Contracts of functions of the given program, and plain laws on what they compute: parts of the proofs of laws. -/

namespace Go.Proofs.YteednjcoapmkaaaGreatDoor
open Go Go.GL

/-! what the journal's laws are made of -/
/-- a call: its kind, its number, its record, what is kept -/
abbrev JOp := Int × Int × Rec × Int
def encJ (o : JOp) : List Value := [.int .i64 o.1, .int .i64 o.2.1] ++ encR o.2.2.1 ++ [.int .u64 o.2.2.2]
theorem encJ_len (o : JOp) : (encJ o).length = 8 := rfl
theorem encR_len (r : Rec) : (encR r).length = 5 := rfl
theorem jop_of {x : List Value} (h : LfsOk [.int .i64, .int .i64, .int .i64, .int .i64, .int .i64, .str, .int .i64, .int .u64] x) : ∃ o : JOp, x = encJ o ∧ (Lit.int .i64 o.1).wf = true ∧ (Lit.int .i64 o.2.1).wf = true ∧ (Lit.int .u64 o.2.2.2).wf = true := by
  obtain ⟨k, s, rfl, w0, h⟩ := h.int
  obtain ⟨n, s, rfl, w1, h⟩ := h.int
  obtain ⟨n0, s, rfl, _, h⟩ := h.int
  obtain ⟨n1, s, rfl, _, h⟩ := h.int
  obtain ⟨n2, s, rfl, _, h⟩ := h.int
  obtain ⟨n3, s, rfl, _, h⟩ := h.str
  obtain ⟨n4, s, rfl, _, h⟩ := h.int
  obtain ⟨n5, s, rfl, w5, h⟩ := h.int
  rw [h.nil]
  exact ⟨(k, n, (n0, n1, n2, n3, n4), n5), rfl, w0, w1, w5⟩
def fewB (l : List JOp) : Bool := decide (l.length ≤ 80) && l.all (fun o => decide (o.2.2.1.2.2.2.1.size ≤ 300))
set_option maxHeartbeats 1000000 in
set_option maxRecDepth 10000 in
theorem jfew_ro (a : Option Addr) (n c : Nat) (l : List JOp) (hn : n = l.length) : RO G 7 [.slice a n c] (readS a n 8 (l.flatMap encJ)) (.bool (fewB l)) := by
  refine RO.enter Tryz.func7 rfl (by decide) rfl Tryz.ntmps7 rfl (fun A hu hA => ?_) (up_readS _ _ _ _)
  have hE : ∀ {L}, A ∈ L → Ent L (readS a n 8 (l.flatMap encJ)) := fun m => Ent.mem m hu hA
  by_cases h80 : 80 < n
  · have hf : fewB l = false := by unfold fewB; rw [decide_eq_false (by omega)]; rfl
    rw [hf]
    repeat (first | refine GD ?_ | refine NW fun _ => ?_)
    exact ret1 rfl ⟨rfl, MM⟩
  have hfd : fewB l = l.all (fun o => decide (o.2.2.1.2.2.2.1.size ≤ 300)) := by unfold fewB; rw [decide_eq_true (by omega)]; rfl
  rw [hfd]
  repeat (first | refine GD ?_ | refine NW fun _ => ?_)
  refine WC.loop (σ := Nat) (fun k => k ≤ n ∧ ∀ o ∈ l.take k, o.2.2.1.2.2.2.1.size ≤ 300)
    (fun k => [(0, .val (.slice a n c)), (8, .val (.int .i64 n)), (9, .val (.int .i64 k))])
    (fun k => [A]) (fun k => n - k) 0 ⟨Nat.zero_le _, by simp⟩ ⟨rfl, rfl, rfl, trivial⟩ (Imp.refl _) ?_
  rintro k ⟨hk, hall⟩
  by_cases hlt : k < n
  rotate_left
  · have hk2 : k = l.length := by omega
    rw [hk2, List.take_length] at hall
    have ht : l.all (fun o => decide (o.2.2.1.2.2.2.1.size ≤ 300)) = true := List.all_eq_true.2 (fun o ho => decide_eq_true (hall o ho))
    rw [ht]
    repeat (first | refine GD ?_ | refine NW fun _ => ?_)
    exact ret1 rfl ⟨rfl, MM⟩
  have hlk : k < l.length := by omega
  have hmem : l[k] ∈ l := List.getElem_mem hlk
  have hsnoc : l.take (k + 1) = l.take k ++ [l[k]] := (List.take_append_getElem hlk).symm
  refine WC.fact (Ent.some (hE MM) (by omega)) ?_
  rintro ⟨b, off, rfl⟩
  repeat (first | refine GD ?_ | refine NW fun _ => ?_)
  refine WL.step rfl (OP.load1 (v := .string l[k].2.2.1.2.2.2.1) rfl rfl rfl rfl (by rw [Nat.add_assoc]; exact Ent.elF encJ_len (j := 5) (hE MM) hlk rfl rfl) rfl rfl ?_)
  generalize l[k] = o at *
  by_cases h300 : 300 < (o.2.2.1.2.2.2.1.size : Int)
  · have ht : l.all (fun o => decide (o.2.2.1.2.2.2.1.size ≤ 300)) = false := by
      cases hq : l.all (fun o => decide (o.2.2.1.2.2.2.1.size ≤ 300))
      · rfl
      · have := of_decide_eq_true (List.all_eq_true.1 hq o hmem)
        omega
    rw [ht]
    repeat (first | refine GD ?_ | refine NW fun _ => ?_)
    exact ret1 rfl ⟨rfl, MM⟩
  · repeat (first | refine GD ?_ | refine NW fun _ => ?_)
    refine ⟨k + 1, ⟨by omega, ?_⟩, by omega, ⟨rfl, rfl, rfl, trivial⟩, Imp.refl _⟩
    intro o' ho'
    rw [hsnoc] at ho'
    rcases List.mem_append.1 ho' with h | h
    · exact hall o' h
    · rw [List.mem_singleton.1 h]; omega
set_option maxHeartbeats 2000000 in
set_option maxRecDepth 10000 in
theorem jsame_ro (a1 a2 : Option Addr) (n1 c1 n2 c2 : Nat) (l1 l2 : List Rec) (h1 : n1 = l1.length) (h2 : n2 = l2.length) (hs : n1 < 1000000) : RO G 23 [.slice a1 n1 c1, .slice a2 n2 c2] (fun h => readS a1 n1 5 (l1.flatMap encR) h ∧ readS a2 n2 5 (l2.flatMap encR) h) (.bool (decide (l1 = l2))) := by
  refine RO.enter Tryz.func23 rfl (by decide) rfl Tryz.ntmps23 rfl (fun A hu hA => ?_) (up_and (up_readS _ _ _ _) (up_readS _ _ _ _))
  have hE1 : ∀ {L}, A ∈ L → Ent L (readS a1 n1 5 (l1.flatMap encR)) := fun m => Ent.mem m hu fun k x => (hA k x).1
  have hE2 : ∀ {L}, A ∈ L → Ent L (readS a2 n2 5 (l2.flatMap encR)) := fun m => Ent.mem m hu fun k x => (hA k x).2
  by_cases hne : n1 = n2
  rotate_left
  · have : l1 ≠ l2 := fun e => hne (by rw [h1, h2, e])
    repeat (first | refine GD ?_ | refine NW fun _ => ?_)
    exact ret1 rfl ⟨by simp [this], MM⟩
  subst hne
  repeat (first | refine GD ?_ | refine NW fun _ => ?_)
  refine WC.loop (σ := Nat) (fun k => k ≤ n1 ∧ ∀ j, j < k → l1[j]? = l2[j]?)
    (fun k => [(0, .val (.slice a1 n1 c1)), (1, .val (.slice a2 n1 c2)), (12, .val (.int .i64 n1)), (13, .val (.int .i64 k))])
    (fun k => [A]) (fun k => n1 - k) 0 ⟨Nat.zero_le _, fun j hj => by omega⟩ ⟨rfl, rfl, rfl, rfl, trivial⟩ (Imp.refl _) ?_
  rintro k ⟨hk, hall⟩
  by_cases hlt : k < n1
  rotate_left
  · repeat (first | refine GD ?_ | refine NW fun _ => ?_)
    refine ret1 rfl ⟨?_, MM⟩
    have : l1 = l2 := List.ext_getElem? fun i => by
      by_cases hi : i < k
      · exact hall i hi
      · rw [List.getElem?_eq_none (by omega), List.getElem?_eq_none (by omega)]
    simp [this]
  have hl1 : k < l1.length := by omega
  have hl2 : k < l2.length := by omega
  repeat (first | refine GD ?_ | refine NW fun _ => ?_)
  refine WC.fact (Ent.some (hE1 MM) (by omega)) ?_
  rintro ⟨b, off, rfl⟩
  refine WC.fact (Ent.some (hE2 MM) (by omega)) ?_
  rintro ⟨b', off', rfl⟩
  refine RD 9 9 (_) ?_
  refine WP 0 ?_
  refine WP 1 ?_
  refine WP 2 ?_
  refine VL 3 (.agg (encR l1[k]).toArray) rfl rfl rfl rfl (.inr ⟨rfl, encR l1[k], rfl, rfl, Ent.elA encR_len (hE1 MM) hl1⟩) ?_
  refine WP 4 ?_
  refine WP 5 ?_
  refine WP 6 ?_
  refine VL 7 (.agg (encR l2[k]).toArray) rfl rfl rfl rfl (.inr ⟨rfl, encR l2[k], rfl, rfl, Ent.elA encR_len (hE2 MM) hl2⟩) ?_
  refine VQ 8 rfl (Quiet.eqAgg (EqAgg.neq (xs := encR l1[k]) (ys := encR l2[k]) rfl rfl rfl rfl (by kernel_rfl) (by kernel_rfl) (by kernel_rfl) (eq_rec _ _))) ?_
  refine DN ?_
  by_cases he : l1[k] = l2[k]
  · rw [decide_eq_true he]
    repeat (first | refine GD ?_ | refine NW fun _ => ?_)
    exact ⟨k + 1, ⟨by omega, fun j hj => by
      by_cases e : j = k
      · subst e; rw [List.getElem?_eq_getElem hl1, List.getElem?_eq_getElem hl2, he]
      · exact hall j (by omega)⟩, by omega, ⟨rfl, rfl, rfl, rfl, trivial⟩, Imp.refl _⟩
  · rw [decide_eq_false he]
    repeat (first | refine GD ?_ | refine NW fun _ => ?_)
    refine ret1 rfl ⟨?_, MM⟩
    have : l1 ≠ l2 := fun e => he (by subst e; rfl)
    simp [this]
end Go.Proofs.YteednjcoapmkaaaGreatDoor
