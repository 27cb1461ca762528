/- Contracts of functions of the given program, and plain laws on what they compute: parts of the proofs of laws. -/
import Derived.Test.YtkoakmaihcheaabDoorGLt
import Derived.Test.YtkoakmaihcheaabDoorP2

namespace Go.Proofs.YtkoakmaihcheaabDoor
open Go Go.GL

set_option maxHeartbeats 1000000 in
set_option maxRecDepth 10000 in
theorem qat_ok (p : Nat) (a : Option Addr) (cap : Nat) (f : List Bool) (ch : List Ch) (m : Int) (hf : f.length = 4) (hs : ch.length < 1000000) :
    RT G 29 [.pointer (some ⟨p, 0, none⟩), .int .i64 m] (refR p a cap f ch) (Ints (listQ f ch m 4)) := by
  refine RT.enter Tryd.func29 rfl (by decide) rfl Tryd.ntmps29 rfl (fun A hu hA => ?_)
  have hER : ∀ {L}, A ∈ L → Ent L (refR p a cap f ch) := fun m => Ent.mem m hu hA
  repeat (first | refine GO ?_ | refine NW fun _ => ?_)
  refine WC.imp (Imp.nilS 3 1) ?_
  refine WC.loop (σ := Nat × Nat × Option Addr × Nat × List Int) (fun s => s.1 ≤ 4 ∧ s.2.2.2.2 = listQ f ch m s.1 ∧ s.2.1 = s.2.2.2.2.length ∧ s.2.1 ≤ s.1)
    (fun s => [(0, .val (.pointer (some ⟨p, 0, none⟩))), (1, .val (.int .i64 m)), (5, .val (.slice s.2.2.1 s.2.1 s.2.2.2.1)), (6, .val (.int .i64 s.1))])
    (fun s => [ownS s.2.2.1 s.2.1 s.2.2.2.1 3 1 (s.2.2.2.2.map vI), A]) (fun s => 4 - s.1) (0, 0, none, 0, []) ⟨by simp, rfl, rfl, Nat.le_refl _⟩ ⟨rfl, rfl, rfl, rfl, trivial⟩ (Imp.refl _) ?_
  rintro ⟨k, n, a1, cap1, l⟩ ⟨hk, hl, hn, hnk⟩
  dsimp only at hk hl hn hnk ⊢
  by_cases h4 : k < 4
  rotate_left
  · have : k = 4 := by omega
    subst this
    repeat (first | refine GD ?_ | refine NW fun _ => ?_)
    exact ret1 rfl ⟨[_], ⟨a1, cap1, by rw [hn, hl], by rw [hn, hl]⟩, Imp.refl _⟩
  have hsucc := listQ_succ f ch m k
  rw [← hl] at hsucc
  repeat (first | refine GD ?_ | refine NW fun _ => ?_)
  refine WL.step rfl (OP.callRO rfl rfl (qhas_ro p a cap f ch k m hf ⟨by omega, by omega⟩ hs) (hER MM) rfl rfl ?_)
  cases hq : hasQ f ch k m
  · rw [hq, if_neg (by simp)] at hsucc
    repeat (first | refine GD ?_ | refine NW fun _ => ?_)
    exact ⟨(k + 1, n, a1, cap1, l), ⟨by dsimp only; omega, hsucc.symm, hn, by dsimp only; omega⟩, by dsimp only; omega, ⟨rfl, rfl, rfl, rfl, trivial⟩, Imp.refl _⟩
  · rw [hq, if_pos rfl] at hsucc
    repeat (first | refine GD ?_ | refine NW fun _ => ?_)
    refine WL.step rfl (OP.append rfl rfl rfl rfl rfl rfl rfl rfl rfl P1 (Ent.own MM) rfl (by omega) (by omega) rfl rfl (fun a' cap' => ?_))
    repeat (first | refine GD ?_ | refine NW fun _ => ?_)
    exact ⟨(k + 1, n + 1, a', cap', l ++ [(k : Int)]), ⟨by dsimp only; omega, hsucc.symm, by simp [hn], by dsimp only; omega⟩, by dsimp only; omega, ⟨rfl, rfl, rfl, rfl, trivial⟩, by rw [List.map_append]; exact II⟩
def QChPost (p : Nat) (a : Option Addr) (cap : Nat) (f : List Bool) (ch : List Ch) (c : Ch) (v : Value) (M : List Assn) : Prop :=
  match putM f ch c with
  | some code => v = .int .i64 code ∧ M = refL p a ch.length cap f ch
  | none => v = .int .i64 0 ∧ ∃ a' cap', M = refL p a' (ch.length + 1) cap' f (ch ++ [c])
set_option maxHeartbeats 4000000 in
set_option maxRecDepth 10000 in
theorem qchange_ok (p : Nat) (a : Option Addr) (cap : Nat) (f : List Bool) (ch : List Ch) (v m : Int) (g : Bool) (hf : f.length = 4) (hi : Inc ch) (hv : Vols ch) (hs : ch.length ≤ 100) :
    Triple G 26 [.pointer (some ⟨p, 0, none⟩), .int .i64 v, .int .i64 m, .bool g] (refL p a ch.length cap f ch) (QChPost p a cap f ch (m, v, g)) := by
  refine Triple.enter Tryd.func26 rfl (by decide) rfl Tryd.ntmps26 rfl (fun F => ?_)
  have hR : ∀ {L}, blk p (ints4 f ++ [.slice a ch.length cap]) 91 ∈ L → ownS a ch.length cap 94 3 (encL ch) ∈ L → Ent L (refR p a cap f ch) := fun m1 m2 => Ent.and (Ent.whole m1) (Ent.own m2)
  refine WC.imp (M := [blk p (ints4 f ++ [.slice a ch.length cap]) 91, ownS a ch.length cap 94 3 (encL ch), F]) (Imp.refl _) ?_
  repeat (first | refine GO ?_ | refine NW fun _ => ?_)
  refine WL.step rfl (OP.callRO rfl rfl (qin_ro _) (fun _ _ => trivial) rfl rfl ?_)
  by_cases h1 : 0 ≤ v ∧ v < 4
  rotate_left
  · rw [decide_eq_false h1]
    repeat (first | refine GD ?_ | refine NW fun _ => ?_)
    refine ret1 rfl ⟨refL p a ch.length cap f ch, ?_, II⟩
    unfold QChPost putM
    rw [if_pos h1]
    exact ⟨rfl, rfl⟩
  rw [decide_eq_true h1]
  repeat (first | refine GD ?_ | refine NW fun _ => ?_)
  refine WL.step rfl (OP.callRO rfl rfl (qlast_ro p a cap f ch hf (by omega)) (hR MM MM) rfl rfl ?_)
  by_cases h2 : m ≤ lastM ch
  · repeat (first | refine GD ?_ | refine NW fun _ => ?_)
    refine ret1 rfl ⟨refL p a ch.length cap f ch, ?_, II⟩
    unfold QChPost putM
    rw [if_neg (not_not_intro h1), if_pos h2]
    exact ⟨rfl, rfl⟩
  by_cases h3 : 1152921504606846975 < m
  · repeat (first | refine GD ?_ | refine NW fun _ => ?_)
    refine ret1 rfl ⟨refL p a ch.length cap f ch, ?_, II⟩
    unfold QChPost putM
    rw [if_neg (not_not_intro h1), if_neg h2, if_pos h3]
    exact ⟨rfl, rfl⟩
  repeat (first | refine GD ?_ | refine NW fun _ => ?_)
  refine WL.step rfl (OP.callRO rfl rfl (qlast_ro p a cap f ch hf (by omega)) (hR MM MM) rfl rfl ?_)
  refine WL.step rfl (OP.callRO rfl rfl (qhas_ro p a cap f ch v (lastM ch) hf h1 (by omega)) (hR MM MM) rfl rfl ?_)
  have hq := hasQ_at (m := lastM ch) hi hv hf h1
  rw [atM_high hi.srt (Int.le_refl _)] at hq
  by_cases h4 : (after f ch).getD v.toNat false = g
  rotate_left
  · have h4' : hasQ f ch v (lastM ch) ≠ g := by rw [hq]; exact h4
    generalize hasQ f ch v (lastM ch) = x at *
    have hx : x = !g := by cases x <;> cases g <;> simp at h4' ⊢
    subst hx
    cases g
    all_goals
      repeat (first | refine GD ?_ | refine NW fun _ => ?_)
      refine ret1 rfl ⟨refL p a ch.length cap f ch, ?_, II⟩
      unfold QChPost putM
      rw [if_neg (not_not_intro h1), if_neg h2, if_neg h3, if_pos h4]
      exact ⟨rfl, rfl⟩
  rw [hq, h4]
  have hg4 : ∀ {L}, blk p (ints4 f ++ [.slice a ch.length cap]) 91 ∈ L → Ent L (cellAt p (0 + 4) (.slice a ch.length cap)) := fun m1 => Ent.blk m1 (by obtain ⟨f0, f1, f2, f3, rfl⟩ := four hf; rfl)
  obtain ⟨f0, f1, f2, f3, rfl⟩ := four hf
  have hbe : (g != g) = false := by cases g <;> rfl
  refine WL.step rfl ?_
  refine OP.pure (nw := true) rfl trivial rfl rfl ?_
  refine WL.step rfl ?_
  refine OP.pure (nw := true) rfl trivial rfl rfl ?_
  rw [show (!(g == g)) = false by cases g <;> rfl]
  by_cases h5 : ch.length = 100
  · repeat (first | refine GD ?_ | refine NW fun _ => ?_)
    refine ret1 rfl ⟨refL p a ch.length cap _ ch, ?_, II⟩
    unfold QChPost putM
    rw [if_neg (not_not_intro h1), if_neg h2, if_neg h3, if_neg (by simpa using h4), if_pos (by omega)]
    exact ⟨rfl, rfl⟩
  repeat (first | refine GD ?_ | refine NW fun _ => ?_)
  refine WL.step rfl (OP.append rfl rfl rfl rfl rfl rfl rfl rfl rfl P1 (Ent.own MM) rfl (by omega) (by omega) rfl rfl (fun a' cap' => ?_))
  repeat (first | refine GD ?_ | refine NW fun _ => ?_)
  refine ret1 rfl ⟨[blk p (ints4 [f0, f1, f2, f3] ++ [.slice a' (ch.length + 1) cap']) 91, ownS a' (ch.length + 1) cap' 94 3 (encL ch ++ encC (m, v, g))], ?_, II⟩
  unfold QChPost putM
  rw [if_neg (not_not_intro h1), if_neg h2, if_neg h3, if_neg (by simpa using h4), if_neg (by omega)]
  exact ⟨rfl, a', cap', by unfold refL; rw [encL_snoc]⟩
set_option maxHeartbeats 4000000 in
set_option maxRecDepth 10000 in
theorem qgbytes_ro (p : Nat) (a : Option Addr) (cap : Nat) (f : List Bool) (ch : List Ch) (hf : f.length = 4) (hv : Vols ch) (hs : ch.length ≤ 100) :
    RO G 31 [.pointer (some ⟨p, 0, none⟩)] (refR p a cap f ch) (.string (ba (bytesM f ch))) := by
  refine RO.enter Tryd.func31 rfl (by decide) rfl Tryd.ntmps31 rfl (fun A hu hA => ?_) (up_refR _ _ _ _ _)
  have hE1 : ∀ {L}, A ∈ L → Ent L (cellsAt p 0 (ints4 f ++ [.slice a ch.length cap])) := fun m => Ent.mem m hu fun k x => (hA k x).1
  have hE2 : ∀ {L}, A ∈ L → Ent L (readS a ch.length 3 (encL ch)) := fun m => Ent.mem m hu fun k x => (hA k x).2
  obtain ⟨f0, f1, f2, f3, rfl⟩ := four hf
  have hgi : ∀ i v, (ints4 [f0, f1, f2, f3] ++ [Value.slice a ch.length cap])[i]? = some v → ∀ {L}, A ∈ L → Ent L (cellAt p (0 + i) v) := fun i v h _ m => Ent.one (i := i) (hE1 m) h
  have hb : ∀ b, 0 ≤ bI b ∧ bI b ≤ 1 := fun b => by cases b <;> decide
  obtain ⟨hb00, hb01⟩ := hb f0
  obtain ⟨hb10, hb11⟩ := hb f1
  obtain ⟨hb20, hb21⟩ := hb f2
  obtain ⟨hb30, hb31⟩ := hb f3
  have hbits := bits_sum f0 f1 f2 f3
  repeat (first | refine GO ?_ | refine NW fun _ => ?_)
  refine RD 34 35 ([A]) ?_
  refine WW 0 ?_; refine WW 1 ?_; refine WW 2 ?_; refine WW 3 ?_
  refine VL 4 (.int .i64 (bI f0)) rfl rfl rfl rfl (.inl ⟨rfl, hgi 0 _ rfl MM⟩) ?_
  refine WW 5 ?_; refine WW 6 ?_; refine WW 7 ?_; refine WW 8 ?_
  refine VL 9 (.int .i64 (bI f1)) rfl rfl rfl rfl (.inl ⟨rfl, hgi 1 _ rfl MM⟩) ?_
  refine WW 10 ?_; refine WW 11 ?_; refine WW 12 ?_; refine WW 13 ?_; refine WW 14 ?_
  refine WW 15 ?_
  refine VL 16 (.int .i64 (bI f2)) rfl rfl rfl rfl (.inl ⟨rfl, hgi 2 _ rfl MM⟩) ?_
  refine WW 17 ?_; refine WW 18 ?_; refine WW 19 ?_; refine WW 20 ?_; refine WW 21 ?_
  refine WW 22 ?_
  refine VL 23 (.int .i64 (bI f3)) rfl rfl rfl rfl (.inl ⟨rfl, hgi 3 _ rfl MM⟩) ?_
  refine WW 24 ?_; refine WW 25 ?_
  refine WW 27 ?_; refine WW 28 ?_; refine WW 29 ?_
  refine VL 30 (.slice a ch.length cap) rfl rfl rfl rfl (.inl ⟨rfl, hgi 4 _ rfl MM⟩) ?_
  refine WW 31 ?_
  rw [← hbits]
  unfold bytesM
  generalize bitsM [f0, f1, f2, f3] = z
  have hz9 := numB_nine z
  have hn9 := numB_nine ch.length
  have hzz := ba_size (numB (clampN z))
  have hnz := ba_size (numB (clampN ch.length))
  refine WH.only 26 rfl rfl (by kernel_rfl) rfl (OP.callRO rfl rfl (qnumber_ro z) (fun _ _ => trivial) rfl rfl ⟨fun _ => II, ?_⟩)
  refine WH.only 32 rfl rfl (by kernel_rfl) rfl (OP.callRO rfl rfl (qnumber_ro ch.length) (fun _ _ => trivial) rfl rfl ⟨fun _ => II, ?_⟩)
  refine WW 33 ?_
  rw [ba_app]
  refine WW 34 ?_
  refine DN ?_
  generalize hpre : numB (clampN z) ++ numB (clampN ch.length) = pre
  have hpl : pre.length ≤ 18 := by rw [← hpre, List.length_append]; omega
  repeat (first | refine GO ?_ | refine NW fun _ => ?_)
  refine WL.step rfl (OP.load1 (v := .slice a ch.length cap) rfl rfl rfl rfl (hgi 4 _ rfl MM) rfl rfl ?_)
  repeat (first | refine GO ?_ | refine NW fun _ => ?_)
  refine WC.loop (σ := Nat) (fun k => k ≤ ch.length)
    (fun k => [(0, .val (.pointer (some ⟨p, 0, none⟩))), (3, .val (.string (ba (pre ++ (ch.take k).flatMap chB)))), (44, .val (.int .i64 ch.length)), (45, .val (.int .i64 k))])
    (fun _ => [A]) (fun k => ch.length - k) 0 (Nat.zero_le _) ⟨rfl, by simp; rfl, rfl, rfl, trivial⟩ (Imp.refl _) ?_
  rintro k hk
  by_cases hlt : k < ch.length
  rotate_left
  · rw [List.take_of_length_le (by omega)]
    repeat (first | refine GD ?_ | refine NW fun _ => ?_)
    exact ret1 rfl ⟨rfl, MM⟩
  have hsn := chB_snoc ch k hlt
  have hbl := chBs_len (ch.take k)
  rw [List.length_take] at hbl
  have hge : ∀ j, j < 3 → (encL ch)[k * 3 + j]? = (encC ch[k])[j]? := fun j hj => encL_get _ _ _ hlt hj
  obtain ⟨v0, v1⟩ := hv ch[k] (List.getElem_mem _)
  generalize ch[k] = c at *
  obtain ⟨cm, cv, cg⟩ := c
  dsimp only at v0 v1
  have hm9 := numB_nine cm
  have hmz := ba_size (numB (clampN cm))
  generalize hl3 : pre ++ (ch.take k).flatMap chB = l3
  have hll : l3.length ≤ 2000 := by rw [← hl3, List.length_append]; omega
  have hlz := ba_size l3
  repeat (first | refine GD ?_ | refine NW fun _ => ?_)
  refine WL.step rfl (OP.load1 (v := .slice a ch.length cap) rfl rfl rfl rfl (hgi 4 _ rfl MM) rfl rfl ?_)
  refine WL.fact (Ent.some (hE2 MM) (by omega)) ?_
  rintro ⟨b, off, rfl⟩
  repeat (first | refine GD ?_ | refine NW fun _ => ?_)
  refine WL.step rfl (OP.load1 (v := .int .i64 cv) rfl rfl rfl rfl (Ent.elem (i := k * 3 + 1) (hE2 MM) rfl (hge 1 (by decide))) rfl rfl ?_)
  repeat (first | refine GD ?_ | refine NW fun _ => ?_)
  refine WL.step rfl (OP.load1 (v := .slice (some ⟨b, off, none⟩) ch.length cap) rfl rfl rfl rfl (hgi 4 _ rfl MM) rfl rfl ?_)
  repeat (first | refine GD ?_ | refine NW fun _ => ?_)
  refine WL.step rfl (OP.load1 (v := .bool cg) rfl rfl rfl rfl (Ent.elem (i := k * 3 + 2) (hE2 MM) rfl (hge 2 (by decide))) rfl rfl ?_)
  have e3 : l3 ++ numB (clampN cm) ++ numB (clampN (2 * cv + (if cg = true then 1 else 0))) = pre ++ (ch.take (k + 1)).flatMap chB := by
    rw [hsn, ← hl3]; unfold chB; simp only [List.append_assoc]
  cases cg
  · have e4 : l3 ++ numB (clampN cm) ++ numB (clampN (2 * cv)) = pre ++ (ch.take (k + 1)).flatMap chB := by
      rw [← e3, if_neg (by decide), Int.add_zero]
    have hx9 := numB_nine (2 * cv)
    have hxz := ba_size (numB (clampN (2 * cv)))
    repeat (first | refine GD ?_ | refine NW fun _ => ?_)
    refine WL.step rfl (OP.load1 (v := .slice (some ⟨b, off, none⟩) ch.length cap) rfl rfl rfl rfl (hgi 4 _ rfl MM) rfl rfl ?_)
    repeat (first | refine GD ?_ | refine NW fun _ => ?_)
    refine WL.step rfl (OP.load1 (v := .int .i64 cm) rfl rfl rfl rfl (Ent.elem (i := k * 3 + 0) (hE2 MM) rfl (hge 0 (by decide))) rfl rfl ?_)
    repeat (first | refine GD ?_ | refine NW fun _ => ?_)
    refine WL.step rfl (OP.callRO rfl rfl (qnumber_ro cm) (fun _ _ => trivial) rfl rfl ?_)
    have hlmz := ba_size (l3 ++ numB (clampN cm))
    rw [List.length_append] at hlmz
    repeat (first | refine GD ?_ | refine NW fun _ => ?_)
    rw [ba_app]
    refine WL.step rfl (OP.callRO rfl rfl (qnumber_ro (2 * cv)) (fun _ _ => trivial) rfl rfl ?_)
    repeat (first | refine GD ?_ | refine NW fun _ => ?_)
    rw [ba_app, e4]
    exact ⟨k + 1, by omega, by omega, ⟨rfl, rfl, rfl, rfl, trivial⟩, Imp.refl _⟩
  · have e4 : l3 ++ numB (clampN cm) ++ numB (clampN (2 * cv + 1)) = pre ++ (ch.take (k + 1)).flatMap chB := by
      rw [← e3, if_pos rfl]
    have hx9 := numB_nine (2 * cv + 1)
    have hxz := ba_size (numB (clampN (2 * cv + 1)))
    repeat (first | refine GD ?_ | refine NW fun _ => ?_)
    refine WL.step rfl (OP.load1 (v := .slice (some ⟨b, off, none⟩) ch.length cap) rfl rfl rfl rfl (hgi 4 _ rfl MM) rfl rfl ?_)
    repeat (first | refine GD ?_ | refine NW fun _ => ?_)
    refine WL.step rfl (OP.load1 (v := .int .i64 cm) rfl rfl rfl rfl (Ent.elem (i := k * 3 + 0) (hE2 MM) rfl (hge 0 (by decide))) rfl rfl ?_)
    repeat (first | refine GD ?_ | refine NW fun _ => ?_)
    refine WL.step rfl (OP.callRO rfl rfl (qnumber_ro cm) (fun _ _ => trivial) rfl rfl ?_)
    have hlmz := ba_size (l3 ++ numB (clampN cm))
    rw [List.length_append] at hlmz
    repeat (first | refine GD ?_ | refine NW fun _ => ?_)
    rw [ba_app]
    refine WL.step rfl (OP.callRO rfl rfl (qnumber_ro (2 * cv + 1)) (fun _ _ => trivial) rfl rfl ?_)
    repeat (first | refine GD ?_ | refine NW fun _ => ?_)
    rw [ba_app, e4]
    exact ⟨k + 1, by omega, by omega, ⟨rfl, rfl, rfl, rfl, trivial⟩, Imp.refl _⟩
end Go.Proofs.YtkoakmaihcheaabDoor
