/- Contracts of functions of the given program, and plain laws: parts of the proofs of laws. -/
import Derived.Test.YtanjfjiaheghcaaGreatDoorZPX3
import Derived.Test.YtanjfjiaheghcaaGreatDoorZPX6
/- Contracts of functions of the given program, and plain laws on what they compute: parts of the proofs of laws. -/

namespace Go.Proofs.YtanjfjiaheghcaaGreatDoor
open Go Go.GL

/-! the journal: heads -/
def hdC (h : Hd) : List Value := [.int .i64 h.turn, .int .i64 h.first, .int .i64 h.gen, .int .i64 h.low]
set_option maxHeartbeats 2000000 in
set_option maxRecDepth 10000 in
theorem hsector_rt (h : Hd) : RT G 168 [.agg (hdC h).toArray] (fun _ => True) (BytesNew (headS h)) := by
  refine RT.enter Tryz.func168 rfl (by decide) rfl Tryz.ntmps168 rfl (fun A hu hA => ?_)
  have h1 := numB_nine h.turn
  have h2 := numB_nine h.first
  have h3 := numB_nine h.gen
  have h4 := numB_nine h.low
  have hb := headB_len h
  rw [show hdC h = [.int .i64 h.turn, .int .i64 h.first, .int .i64 h.gen, .int .i64 h.low] from rfl]
  repeat (first | refine GO ?_ | refine NW fun _ => ?_)
  rename_i q
  refine RD 7 7 (_) ?_
  refine WP 0 ?_
  refine VV 1 ?_
  refine WP 3 ?_
  refine VV 4 ?_
  refine WH.only 2 rfl rfl (by kernel_rfl) rfl (OP.call (pre := [ownS none 0 0 5 1 (([] : List UInt8).map byteV)]) rfl rfl (number_ok none 0 0 [] h.turn (by omega)) (Imp.nilS 5 1) rfl rfl (fun v M hM => ?_))
  obtain ⟨a1, cap1, rfl, rfl⟩ := hM
  refine ⟨fun _ => II, ?_⟩
  refine WH.only 5 rfl rfl (by kernel_rfl) rfl (OP.call (pre := [ownS a1 _ cap1 5 1 _]) rfl rfl (number_ok a1 _ cap1 _ h.first (by omega)) PS rfl rfl (fun v M hM => ?_))
  obtain ⟨a2, cap2, rfl, rfl⟩ := hM
  refine ⟨fun _ => II, ?_⟩
  refine WP 6 ?_
  refine DN ?_
  repeat (first | refine GO ?_ | refine NW fun _ => ?_)
  refine RD 13 13 ([blk q [.int .i64 h.turn, .int .i64 h.first, .int .i64 h.gen, .int .i64 h.low] 228, A]) ?_
  refine WP 0 ?_
  refine WP 1 ?_
  refine VV 2 ?_
  refine WP 4 ?_
  refine VV 5 ?_
  refine WH.only 3 rfl rfl (by kernel_rfl) rfl (OP.call (pre := [ownS a2 _ cap2 5 1 _]) rfl rfl (number_ok a2 _ cap2 _ h.gen (by omega)) PS rfl rfl (fun v M hM => ?_))
  obtain ⟨a3, cap3, rfl, rfl⟩ := hM
  refine ⟨fun _ => II, ?_⟩
  refine WH.only 6 rfl rfl (by kernel_rfl) rfl (OP.call (pre := [ownS a3 _ cap3 5 1 _]) rfl rfl (number_ok a3 _ cap3 _ h.low (by omega)) PS rfl rfl (fun v M hM => ?_))
  obtain ⟨a4, cap4, rfl, rfl⟩ := hM
  refine ⟨fun _ => II, ?_⟩
  refine WH.only 7 rfl rfl (by kernel_rfl) rfl (OP.callRT rfl rfl (sector_ok a4 _ cap4 (headB h) (by unfold headB; simp; omega) (by unfold headB at hb; simp at hb ⊢; omega)) (Ent.own (T := 5) (by unfold headB; exact MM)) rfl rfl (fun v E hE => ?_))
  obtain ⟨v1, rfl, a6, cap6, rfl, rfl⟩ := hE
  refine ⟨fun _ => II, ?_⟩
  refine WP 8 ?_
  refine WP 9 ?_
  refine WP 10 ?_
  refine WP 11 ?_
  refine WP 12 ?_
  refine DN ?_
  repeat (first | refine GO ?_ | refine NW fun _ => ?_)
  exact ret1 rfl ⟨[_], ⟨a6, cap6, rfl, rfl⟩, II⟩
/-- the answer of headOf -/
def HeadPost (l : List UInt8) (slot : Int) (v : Value) : Prop :=
  match headOf l slot with
  | some h => v = .tuple #[.agg (hdC h).toArray, .bool true]
  | none => ∃ h, v = .tuple #[.agg (hdC h).toArray, .bool false]
set_option maxHeartbeats 4000000 in
set_option maxRecDepth 10000 in
theorem headOf_rt (a : Option Addr) (n c : Nat) (l : List UInt8) (slot : Int) (hn : n = l.length) (hc : n ≤ c) (hs : n < 1000000) : RT G 172 [.slice a n c, .int .i64 slot] (readS a n 1 (l.map byteV)) (fun v E => HeadPost l slot v ∧ E = []) := by
  refine RT.enter Tryz.func172 rfl (by decide) rfl Tryz.ntmps172 rfl (fun A hu hA => ?_)
  have hE : ∀ {L}, A ∈ L → Ent L (readS a n 1 (l.map byteV)) := fun m => Ent.mem m hu hA
  repeat (first | refine GD ?_ | refine NW fun _ => ?_)
  refine WL.step rfl (OP.callRT rfl rfl (open_ok a n c l hn hc hs) (hE MM) rfl rfl ?_)
  rintro v E hO
  unfold OpenPost at hO
  by_cases ho : OpenOk l
  rotate_left
  · rw [if_neg ho] at hO
    obtain ⟨rfl, rfl⟩ := hO
    have hdec : headOf l slot = none := by unfold headOf; rw [if_neg (fun h => ho h.1)]
    repeat (first | refine GD ?_ | refine NW fun _ => ?_)
    refine retc2 rfl rfl rfl rfl rfl (HasCut.ent (n := 4) HC).1 ⟨[], ⟨?_, rfl⟩, II⟩
    unfold HeadPost
    rw [hdec]
    exact ⟨⟨0, 0, 0, 0⟩, rfl⟩
  rw [if_pos ho] at hO
  obtain ⟨v1, rfl, a2, cap2, rfl, rfl⟩ := hO
  have hdR : headOf l slot = if HdOk l slot (hd4 (l.take (l.length - 4), 0)).1 (hd4 (l.take (l.length - 4), 0)).2.2 then some (hd4 (l.take (l.length - 4), 0)).1 else none := by
    unfold headOf
    by_cases hk : HdOk l slot (hd4 (l.take (l.length - 4), 0)).1 (hd4 (l.take (l.length - 4), 0)).2.2
    · rw [if_pos ⟨ho, hk⟩, if_pos hk]
    · rw [if_neg (fun h => hk h.2), if_neg hk]
  have hl4 : (l.take (l.length - 4)).length < 1000000 := by rw [List.length_take]; omega
  generalize l.take (l.length - 4) = l4 at *
  refine WL.fact (Ent.ownLe (a := a2) (n := l4.length) (cap := cap2) (T := 5) (size := 1) (cs := l4.map byteV) MM) (fun hc2 => ?_)
  have hby : Bytes (ownS a2 l4.length cap2 5 1 (l4.map byteV)) l4 (.slice a2 l4.length cap2) := ⟨a2, l4.length, cap2, rfl, rfl, hc2, fun h x => read_of_own x⟩
  generalize hO : ownS a2 l4.length cap2 5 1 (l4.map byteV) = O at *
  have huO : Up O := by rw [← hO]; exact up_ownS _ _ _ _ _ _
  repeat (first | refine GD ?_ | refine NW fun _ => ?_)
  refine WL.step rfl (OP.callRT rfl rfl (read0_ok a2 l4.length cap2) (fun _ _ => trivial) rfl rfl ?_)
  rintro v E ⟨r, rfl, rfl⟩
  unfold hd4 at hdR
  repeat (first | refine GD ?_ | refine NW fun _ => ?_)
  refine WL.step rfl (OP.call (pre := [blk r [.slice a2 l4.length cap2, .int .i64 (l4, 0).2] 240, O]) rfl rfl (numR_ok r _ (l4, 0) O huO hby (by first | exact hl4 | assumption)) PS rfl rfl ?_)
  rintro _ _ ⟨rfl, vy1, hy1, rfl⟩
  have by1 := numR_bd (l4, 0)
  have hly1 : (numR (l4, 0)).2.1.length < 1000000 := by
    refine Nat.lt_of_le_of_lt by1.1 ?_
    first | exact hl4 | assumption
  generalize numR (l4, 0) = y1 at *
  obtain ⟨xy1, sy1⟩ := y1
  dsimp only at hy1 by1 hly1 hdR ⊢
  repeat (first | refine GD ?_ | refine NW fun _ => ?_)
  refine WL.step rfl (OP.call (pre := [blk r [vy1, .int .i64 sy1.2] 240, O]) rfl rfl (numR_ok r _ sy1 O huO hy1 (by first | exact hl4 | assumption)) PS rfl rfl ?_)
  rintro _ _ ⟨rfl, vy2, hy2, rfl⟩
  have by2 := numR_bd sy1
  have hly2 : (numR sy1).2.1.length < 1000000 := by
    refine Nat.lt_of_le_of_lt by2.1 ?_
    first | exact hl4 | assumption
  generalize numR sy1 = y2 at *
  obtain ⟨xy2, sy2⟩ := y2
  dsimp only at hy2 by2 hly2 hdR ⊢
  repeat (first | refine GD ?_ | refine NW fun _ => ?_)
  refine WL.step rfl (OP.call (pre := [blk r [vy2, .int .i64 sy2.2] 240, O]) rfl rfl (numR_ok r _ sy2 O huO hy2 (by first | exact hl4 | assumption)) PS rfl rfl ?_)
  rintro _ _ ⟨rfl, vy3, hy3, rfl⟩
  have by3 := numR_bd sy2
  have hly3 : (numR sy2).2.1.length < 1000000 := by
    refine Nat.lt_of_le_of_lt by3.1 ?_
    first | exact hl4 | assumption
  generalize numR sy2 = y3 at *
  obtain ⟨xy3, sy3⟩ := y3
  dsimp only at hy3 by3 hly3 hdR ⊢
  repeat (first | refine GD ?_ | refine NW fun _ => ?_)
  refine WL.step rfl (OP.call (pre := [blk r [vy3, .int .i64 sy3.2] 240, O]) rfl rfl (numR_ok r _ sy3 O huO hy3 (by first | exact hl4 | assumption)) PS rfl rfl ?_)
  rintro _ _ ⟨rfl, vy4, hy4, rfl⟩
  have by4 := numR_bd sy3
  have hly4 : (numR sy3).2.1.length < 1000000 := by
    refine Nat.lt_of_le_of_lt by4.1 ?_
    first | exact hl4 | assumption
  generalize numR sy3 = y4 at *
  obtain ⟨xy4, sy4⟩ := y4
  dsimp only at hy4 by4 hly4 hdR ⊢
  repeat (first | refine GD ?_ | refine NW fun _ => ?_)
  refine WL.step rfl (OP.callRO rfl rfl (err_ro r vy4 sy4.2) (Ent.whole (T := 240) MM) rfl rfl ?_)
  obtain ⟨ly4, ey4⟩ := sy4
  dsimp only at hdR ⊢
  by_cases he : ey4 = 0
  rotate_left
  · have hdec : headOf l slot = none := by rw [hdR, if_neg (fun h => he h.1)]
    repeat (first | refine GD ?_ | refine NW fun _ => ?_)
    refine RD 8 10 (_) ?_
    refine VV 0 ?_
    refine WP 1 ?_
    refine WP 2 ?_
    refine VF 3 ?_
    refine VF 4 ?_
    refine VF 5 ?_
    refine VF 6 ?_
    refine WP 7 ?_
    refine WH.only 8 rfl rfl (by kernel_rfl) rfl (OP.store rfl rfl rfl rfl rfl rfl rfl UP rfl ⟨(fun h => nomatch h), ?_⟩)
    refine WP 9 ?_
    refine DN ?_
    repeat (first | refine GD ?_ | refine NW fun _ => ?_)
    refine retc2 rfl rfl rfl rfl rfl (HasCut.ent (n := 4) HC).1 ⟨[], ⟨?_, rfl⟩, II⟩
    unfold HeadPost
    rw [hdec]
    exact ⟨⟨xy1, xy2, xy3, xy4⟩, rfl⟩
  by_cases h1 : xy4 ≤ xy3
  rotate_left
  · have hdec : headOf l slot = none := by rw [hdR, if_neg (fun h => h1 h.2.1)]
    repeat (first | refine GD ?_ | refine NW fun _ => ?_)
    refine RD 8 10 (_) ?_
    refine VV 0 ?_
    refine WP 1 ?_
    refine WP 2 ?_
    refine VF 3 ?_
    refine VF 4 ?_
    refine VF 5 ?_
    refine VF 6 ?_
    refine WP 7 ?_
    refine WH.only 8 rfl rfl (by kernel_rfl) rfl (OP.store rfl rfl rfl rfl rfl rfl rfl UP rfl ⟨(fun h => nomatch h), ?_⟩)
    refine WP 9 ?_
    refine DN ?_
    repeat (first | refine GD ?_ | refine NW fun _ => ?_)
    refine retc2 rfl rfl rfl rfl rfl (HasCut.ent (n := 4) HC).1 ⟨[], ⟨?_, rfl⟩, II⟩
    unfold HeadPost
    rw [hdec]
    exact ⟨⟨xy1, xy2, xy3, xy4⟩, rfl⟩
  by_cases h2 : 0 < xy2
  rotate_left
  · have hdec : headOf l slot = none := by rw [hdR, if_neg (fun h => h2 h.2.2.1)]
    repeat (first | refine GD ?_ | refine NW fun _ => ?_)
    refine RD 8 10 (_) ?_
    refine VV 0 ?_
    refine WP 1 ?_
    refine WP 2 ?_
    refine VF 3 ?_
    refine VF 4 ?_
    refine VF 5 ?_
    refine VF 6 ?_
    refine WP 7 ?_
    refine WH.only 8 rfl rfl (by kernel_rfl) rfl (OP.store rfl rfl rfl rfl rfl rfl rfl UP rfl ⟨(fun h => nomatch h), ?_⟩)
    refine WP 9 ?_
    refine DN ?_
    repeat (first | refine GD ?_ | refine NW fun _ => ?_)
    refine retc2 rfl rfl rfl rfl rfl (HasCut.ent (n := 4) HC).1 ⟨[], ⟨?_, rfl⟩, II⟩
    unfold HeadPost
    rw [hdec]
    exact ⟨⟨xy1, xy2, xy3, xy4⟩, rfl⟩
  by_cases h3 : xy1 % 2 = slot
  rotate_left
  · have hdec : headOf l slot = none := by rw [hdR, if_neg (fun h => h3 h.2.2.2.1)]
    repeat (first | refine GD ?_ | refine NW fun _ => ?_)
    refine RD 8 10 (_) ?_
    refine VV 0 ?_
    refine WP 1 ?_
    refine WP 2 ?_
    refine VF 3 ?_
    refine VF 4 ?_
    refine VF 5 ?_
    refine VF 6 ?_
    refine WP 7 ?_
    refine WH.only 8 rfl rfl (by kernel_rfl) rfl (OP.store rfl rfl rfl rfl rfl rfl rfl UP rfl ⟨(fun h => nomatch h), ?_⟩)
    refine WP 9 ?_
    refine DN ?_
    repeat (first | refine GD ?_ | refine NW fun _ => ?_)
    refine retc2 rfl rfl rfl rfl rfl (HasCut.ent (n := 4) HC).1 ⟨[], ⟨?_, rfl⟩, II⟩
    unfold HeadPost
    rw [hdec]
    exact ⟨⟨xy1, xy2, xy3, xy4⟩, rfl⟩
  repeat (first | refine GD ?_ | refine NW fun _ => ?_)
  have hsec := hsector_rt ⟨xy1, xy2, xy3, xy4⟩
  have hlen := headS_len ⟨xy1, xy2, xy3, xy4⟩
  have hok : HdOk l slot ⟨xy1, xy2, xy3, xy4⟩ ey4 ↔ headS ⟨xy1, xy2, xy3, xy4⟩ = l := ⟨fun h => h.2.2.2.2, fun h => ⟨he, h1, h2, h3, h⟩⟩
  generalize headS ⟨xy1, xy2, xy3, xy4⟩ = hS at *
  by_cases h4 : hS = l
  rotate_left
  all_goals
    refine RD 8 10 (_) ?_
    refine VV 0 ?_
    refine WP 1 ?_
    refine WP 2 ?_
    refine VV 3 ?_
    refine WP 5 ?_
    refine WH.onlyG (q := true) 4 rfl rfl rfl rfl rfl rfl rfl (by kernel_rfl) rfl (.inl rfl) (fun _ => OP.callRT rfl rfl hsec (fun _ _ => trivial) rfl rfl (fun v E hE' => ?_)) (fun h => nomatch h)
    obtain ⟨a6, cap6, rfl, rfl⟩ := hE'
    refine ⟨fun _ => II, ?_⟩
    refine WH.onlyG (q := true) 6 rfl rfl rfl rfl rfl rfl rfl (by kernel_rfl) rfl (.inl rfl) (fun _ => OP.callRO rfl rfl (beq_ro a6 a _ cap6 n c hS l) (Ent.and (Ent.own (T := 5) MM) (hE MM)) rfl rfl ⟨fun _ => II, ?_⟩) (fun h => nomatch h)
    first | rw [decide_eq_false h4] | rw [decide_eq_true h4]
    refine WP 7 ?_
    refine WH.only 8 rfl rfl (by kernel_rfl) rfl (OP.store rfl rfl rfl rfl rfl rfl rfl UP rfl ⟨(fun h => nomatch h), ?_⟩)
    refine WP 9 ?_
    refine DN ?_
    repeat (first | refine GD ?_ | refine NW fun _ => ?_)
    refine retc2 rfl rfl rfl rfl rfl (HasCut.ent (n := 4) HC).1 ⟨[], ⟨?_, rfl⟩, II⟩
    unfold HeadPost
    rw [hdR]
    first
      | rw [if_neg (fun h => h4 (hok.1 h))]; exact ⟨⟨xy1, xy2, xy3, xy4⟩, rfl⟩
      | rw [if_pos (hok.2 h4)]; exact rfl
end Go.Proofs.YtanjfjiaheghcaaGreatDoor
/- Contracts of functions of the given program, and plain laws on what they compute: parts of the proofs of laws. -/

namespace Go.Proofs.YtanjfjiaheghcaaGreatDoor
open Go Go.GL

/-! the journal: which head counts -/
def nz (x : UInt8) : Bool := decide (x ≠ 0)
def idxNZ (l : List UInt8) : Int := if l.any nz = true then (l.findIdx nz : Int) else -1
theorem new1_ro (x : UInt8) : RO G 171 [byteV x] (fun _ => True) (.bool (nz x)) := by
  refine RO.enter Tryz.func171 rfl (by decide) rfl Tryz.ntmps171 rfl (fun A hu hA => ?_) (fun _ _ _ h => h)
  have e : nz x = decide (¬ (x.toNat : Int) = 0) := by
    unfold nz
    by_cases h : x = 0
    · subst h; rfl
    · rw [decide_eq_true h, decide_eq_true]
      intro h2
      exact h (UInt8.toNat_inj.1 (by have : x.toNat = 0 := by omega
                                     rw [this]; rfl))
  rw [e]
  have hx := x.toNat_lt
  unfold byteV
  by_cases h0 : (x.toNat : Int) = 0
  · rw [decide_eq_false (not_not_intro h0)]
    repeat (first | refine GD ?_ | refine NW fun _ => ?_)
    exact ret1 rfl ⟨rfl, MM⟩
  · rw [decide_eq_true h0]
    repeat (first | refine GD ?_ | refine NW fun _ => ?_)
    exact ret1 rfl ⟨rfl, MM⟩
theorem any_take (l : List UInt8) (k : Nat) (h : k < l.length) : (l.take (k + 1)).any nz = ((l.take k).any nz || nz l[k]) := by
  rw [← List.take_append_getElem h, List.any_append]; simp only [List.any_cons, List.any_nil, Bool.or_false]
theorem find_at (l : List UInt8) (k : Nat) (h : k < l.length) (h1 : (l.take k).any nz = false) (h2 : nz l[k] = true) : idxNZ l = k := by
  have h3 : l.any nz = true := List.any_eq_true.2 ⟨l[k], List.getElem_mem h, h2⟩
  unfold idxNZ
  rw [if_pos h3]
  congr 1
  rw [List.findIdx_eq h]
  refine ⟨h2, fun j hj => ?_⟩
  cases hn : nz l[j]
  · rfl
  · exfalso
    have : (l.take k).any nz = true := List.any_eq_true.2 ⟨l[j], by rw [List.mem_take_iff_getElem]; exact ⟨j, by omega, rfl⟩, hn⟩
    rw [h1] at this; cases this
set_option maxHeartbeats 1000000 in
set_option maxRecDepth 10000 in
theorem idx_ro (a : Option Addr) (n c : Nat) (l : List UInt8) (hn : n = l.length) (hs : n < 1000000) : RO G 177 [.slice a n c, .func (.func 171) #[] #[]] (readS a n 1 (l.map byteV)) (.int .i64 (idxNZ l)) := by
  refine RO.enter Tryz.func177 rfl (by decide) rfl Tryz.ntmps177 rfl (fun A hu hA => ?_) (up_readS _ _ _ _)
  have hE : ∀ {L}, A ∈ L → Ent L (readS a n 1 (l.map byteV)) := fun m => Ent.mem m hu hA
  repeat (first | refine GO ?_ | refine NW fun _ => ?_)
  refine WC.loop (σ := Nat) (fun k => k ≤ l.length ∧ (l.take k).any nz = false)
    (fun k => [(0, .val (.slice a n c)), (1, .val (.func (.func 171) #[] #[])), (7, .val (.int .i64 n)), (8, .val (.int .i64 k))])
    (fun _ => [A]) (fun k => l.length - k) 0 ⟨Nat.zero_le _, rfl⟩ ⟨rfl, rfl, rfl, rfl, trivial⟩ (Imp.refl _) ?_
  rintro k ⟨hk, hz⟩
  by_cases hlt : k < l.length
  rotate_left
  · have he : k = l.length := by omega
    subst he
    rw [List.take_length] at hz
    have hi : idxNZ l = -1 := by unfold idxNZ; rw [if_neg (by rw [hz]; simp)]
    repeat (first | refine GD ?_ | refine NW fun _ => ?_)
    refine ret1 rfl ⟨?_, MM⟩
    rw [hi]
  have hsn := any_take l k hlt
  have hfa := find_at l k hlt hz
  refine WC.fact (Ent.some (hE MM) (by omega)) ?_
  rintro ⟨b, off, rfl⟩
  repeat (first | refine GD ?_ | refine NW fun _ => ?_)
  refine WL.step rfl (OP.load1 (v := byteV l[k]) rfl rfl rfl rfl (Ent.elem (i := k * 1) (hE MM) rfl (by simp [hlt])) rfl rfl ?_)
  refine WL.step rfl (OP.callVRO (vs := [byteV l[k]]) (caps := []) rfl rfl rfl (new1_ro l[k]) (fun _ _ => trivial) rfl rfl ?_)
  cases hnz : nz l[k]
  · repeat (first | refine GD ?_ | refine NW fun _ => ?_)
    refine ⟨k + 1, ⟨by omega, by rw [hsn, hz, hnz]; rfl⟩, by omega, ⟨rfl, rfl, rfl, rfl, trivial⟩, Imp.refl _⟩
  · repeat (first | refine GD ?_ | refine NW fun _ => ?_)
    refine ret1 rfl ⟨?_, MM⟩
    rw [hfa hnz]
theorem idx_nn (l : List UInt8) : decide (0 ≤ idxNZ l) = l.any nz := by
  unfold idxNZ
  cases h : l.any nz
  · rw [if_neg (by simp)]; rfl
  · rw [if_pos rfl]; exact decide_eq_true (by omega)
set_option maxRecDepth 10000 in
theorem contains_ro (a : Option Addr) (n c : Nat) (l : List UInt8) (hn : n = l.length) (hs : n < 1000000) : RO G 170 [.slice a n c, .func (.func 171) #[] #[]] (readS a n 1 (l.map byteV)) (.bool (l.any nz)) := by
  refine RO.enter Tryz.func170 rfl (by decide) rfl Tryz.ntmps170 rfl (fun A hu hA => ?_) (up_readS _ _ _ _)
  repeat (first | refine GO ?_ | refine NW fun _ => ?_)
  refine WL.step rfl (OP.callRO rfl rfl (idx_ro a n c l hn hs) (Ent.mem MM hu hA) rfl rfl ?_)
  rw [← idx_nn]
  by_cases h : 0 ≤ idxNZ l
  · rw [decide_eq_true h]
    repeat (first | refine GD ?_ | refine NW fun _ => ?_)
    exact ret1 rfl ⟨rfl, MM⟩
  · rw [decide_eq_false h]
    repeat (first | refine GD ?_ | refine NW fun _ => ?_)
    exact ret1 rfl ⟨rfl, MM⟩
theorem any_zero {l : List UInt8} (h : l.length = 64) : l.any nz = !decide (l = zero64) := by
  by_cases e : l = zero64
  · subst e; rfl
  · rw [decide_eq_false e]
    cases ha : l.any nz
    · exfalso
      apply e
      apply List.eq_replicate_iff.2 ⟨h, fun b hb => ?_⟩
      have := List.any_eq_false.1 ha b hb
      unfold nz at this
      simpa using this
    · rfl
/-- what newest knows behind k slots: the head, are both zero so far, is there one -/
def nst (D : Dsk) : Nat → Hd × Bool × Bool
  | 0 => (hd0, true, false)
  | k + 1 =>
    let s := nst D k
    let z := s.2.1 && decide (D.cur k = zero64)
    match headOf (D.cur k) k with
    | some x => if s.2.2 = false ∨ s.1.turn < x.turn then (x, z, true) else (s.1, z, s.2.2)
    | none => (s.1, z, s.2.2)
theorem nst_two (D : Dsk) : newestM (D.cur 0) (D.cur 1) = if ((nst D 2).2.2 || (nst D 2).2.1) = true then some (nst D 2).1 else none := by
  unfold newestM
  simp only [nst]
  push_cast
  cases h0 : headOf (D.cur 0) 0 <;> cases h1 : headOf (D.cur 1) 1 <;> simp only []
  · by_cases z0 : D.cur 0 = zero64 <;> by_cases z1 : D.cur 1 = zero64 <;> simp [z0, z1]
  · simp
  · simp
  · rename_i x y
    by_cases h : x.turn < y.turn
    · simp [h]
    · simp [h]
def NewHdP (o : Option Hd) (v : Value) : Prop := match o with
  | some h => v = .tuple #[.agg (hdC h).toArray, .bool true]
  | none => ∃ h, v = .tuple #[.agg (hdC h).toArray, .bool false]
set_option maxHeartbeats 4000000 in
set_option maxRecDepth 10000 in
theorem newest_rt (p : Nat) (D : Dsk) (hD : D.ok) (hl : 2 ≤ D.S.length) (hw : D.W.length < 1000000) : RT G 148 [.pointer (some ⟨p, 0, none⟩)] (dsk p D) (fun v E => NewHdP (newestM (D.cur 0) (D.cur 1)) v ∧ E = []) := by
  refine RT.enter Tryz.func148 rfl (by decide) rfl Tryz.ntmps148 rfl (fun A hu hA => ?_)
  have hE : ∀ {L}, A ∈ L → Ent L (dsk p D) := fun m => Ent.mem m hu hA
  rw [nst_two]
  repeat (first | refine GO ?_ | refine NW fun _ => ?_)
  rename_i b2 b4
  refine WC.loop (σ := Nat) (fun k => k ≤ 2)
    (fun k => [(0, .val (.pointer (some ⟨p, 0, none⟩))), (2, .val (.pointer (some ⟨b2, 0, none⟩))), (4, .val (.pointer (some ⟨b4, 0, none⟩))), (5, .val (.bool (nst D k).2.1)), (6, .val (.bool (nst D k).2.2)), (13, .val (.int .i64 k))])
    (fun k => [blk b4 (hdC (nst D k).1) 228, blk b2 [.int .i64 0, .int .i64 0, .int .i64 0, .int .i64 0] 228, A]) (fun k => 2 - k) 0 (by omega) ⟨rfl, rfl, rfl, rfl, rfl, rfl, trivial⟩ (Imp.refl _) ?_
  rintro k hk
  by_cases hlt : k < 2
  rotate_left
  · have he : k = 2 := by omega
    subst he
    generalize nst D 2 = s
    obtain ⟨h, z, f⟩ := s
    dsimp only
    cases f <;> cases z
    all_goals
      repeat (first | refine GD ?_ | refine NW fun _ => ?_)
      refine retc2 rfl rfl rfl rfl rfl (HasCut.ent (n := 4) HC).1 ⟨[], ⟨?_, rfl⟩, II⟩
      first | exact rfl | exact ⟨h, rfl⟩
  have hsn : nst D (k + 1) = (match headOf (D.cur k) k with
    | some x => if (nst D k).2.2 = false ∨ (nst D k).1.turn < x.turn then (x, (nst D k).2.1 && decide (D.cur k = zero64), true) else ((nst D k).1, (nst D k).2.1 && decide (D.cur k = zero64), (nst D k).2.2)
    | none => ((nst D k).1, (nst D k).2.1 && decide (D.cur k = zero64), (nst D k).2.2)) := rfl
  generalize nst D k = s at *
  obtain ⟨h, z, f⟩ := s
  dsimp only at hsn ⊢
  have h64 := Dsk.cur_64 hD (show k < D.S.length by omega)
  repeat (first | refine GD ?_ | refine NW fun _ => ?_)
  refine WL.step rfl (OP.callRT rfl rfl (dread_rt p D k hD hw) (hE MM) rfl rfl ?_)
  intro v E hRd
  unfold DReadPost at hRd
  rw [if_pos (by omega), Int.toNat_natCast] at hRd
  obtain ⟨br, rfl, rfl⟩ := hRd
  generalize D.cur k = l at *
  have hcon := contains_ro (some ⟨br, 0, none⟩) 64 64 l h64.symm (by decide)
  rw [any_zero h64] at hcon
  have hho := headOf_rt (some ⟨br, 0, none⟩) 64 64 l k h64.symm (Nat.le_refl _) (by decide)
  cases z with
  | false =>
    rw [Bool.false_and] at hsn
    repeat (first | refine GD ?_ | refine NW fun _ => ?_)
    refine WL.step rfl (OP.callRT rfl rfl hho (Ent.at (up_readS _ _ _ _) MM) rfl rfl ?_)
    rintro v E ⟨hH, rfl⟩
    unfold HeadPost at hH
    cases hq : headOf l k with
    | none =>
      rw [hq] at hH hsn
      obtain ⟨h', rfl⟩ := hH
      dsimp only at hsn
      repeat (first | refine GD ?_ | refine NW fun _ => ?_)
      exact ⟨k + 1, by omega, by omega, ⟨rfl, rfl, rfl, by rw [hsn]; rfl, by rw [hsn]; rfl, rfl, trivial⟩, by rw [hsn]; exact II⟩
    | some x =>
      rw [hq] at hH hsn
      obtain rfl := hH
      dsimp only at hsn
      cases f with
      | false =>
        rw [if_pos (.inl rfl)] at hsn
        repeat (first | refine GD ?_ | refine NW fun _ => ?_)
        exact ⟨k + 1, by omega, by omega, ⟨rfl, rfl, rfl, by rw [hsn]; rfl, by rw [hsn]; rfl, rfl, trivial⟩, by rw [hsn]; exact II⟩
      | true =>
        by_cases hlt2 : h.turn < x.turn
        · rw [if_pos (.inr hlt2)] at hsn
          repeat (first | refine GD ?_ | refine NW fun _ => ?_)
          exact ⟨k + 1, by omega, by omega, ⟨rfl, rfl, rfl, by rw [hsn]; rfl, by rw [hsn]; rfl, rfl, trivial⟩, by rw [hsn]; exact II⟩
        · rw [if_neg (by simp [hlt2])] at hsn
          repeat (first | refine GD ?_ | refine NW fun _ => ?_)
          exact ⟨k + 1, by omega, by omega, ⟨rfl, rfl, rfl, by rw [hsn]; rfl, by rw [hsn]; rfl, rfl, trivial⟩, by rw [hsn]; exact II⟩
  | true =>
    rw [Bool.true_and] at hsn
    repeat (first | refine GD ?_ | refine NW fun _ => ?_)
    refine WL.guardT rfl rfl rfl rfl (OP.callRO rfl rfl hcon (Ent.at (up_readS _ _ _ _) MM) rfl rfl ?_)
    by_cases hl0 : l = zero64
    · rw [decide_eq_true hl0] at hsn ⊢
      repeat (first | refine GD ?_ | refine NW fun _ => ?_)
      refine WL.step rfl (OP.callRT rfl rfl hho (Ent.at (up_readS _ _ _ _) MM) rfl rfl ?_)
      rintro v E ⟨hH, rfl⟩
      unfold HeadPost at hH
      cases hq : headOf l k with
      | none =>
        rw [hq] at hH hsn
        obtain ⟨h', rfl⟩ := hH
        dsimp only at hsn
        repeat (first | refine GD ?_ | refine NW fun _ => ?_)
        exact ⟨k + 1, by omega, by omega, ⟨rfl, rfl, rfl, by rw [hsn]; rfl, by rw [hsn]; rfl, rfl, trivial⟩, by rw [hsn]; exact II⟩
      | some x =>
        rw [hq] at hH hsn
        obtain rfl := hH
        dsimp only at hsn
        cases f with
        | false =>
          rw [if_pos (.inl rfl)] at hsn
          repeat (first | refine GD ?_ | refine NW fun _ => ?_)
          exact ⟨k + 1, by omega, by omega, ⟨rfl, rfl, rfl, by rw [hsn]; rfl, by rw [hsn]; rfl, rfl, trivial⟩, by rw [hsn]; exact II⟩
        | true =>
          by_cases hlt2 : h.turn < x.turn
          · rw [if_pos (.inr hlt2)] at hsn
            repeat (first | refine GD ?_ | refine NW fun _ => ?_)
            exact ⟨k + 1, by omega, by omega, ⟨rfl, rfl, rfl, by rw [hsn]; rfl, by rw [hsn]; rfl, rfl, trivial⟩, by rw [hsn]; exact II⟩
          · rw [if_neg (by simp [hlt2])] at hsn
            repeat (first | refine GD ?_ | refine NW fun _ => ?_)
            exact ⟨k + 1, by omega, by omega, ⟨rfl, rfl, rfl, by rw [hsn]; rfl, by rw [hsn]; rfl, rfl, trivial⟩, by rw [hsn]; exact II⟩
    · rw [decide_eq_false hl0] at hsn ⊢
      repeat (first | refine GD ?_ | refine NW fun _ => ?_)
      refine WL.step rfl (OP.callRT rfl rfl hho (Ent.at (up_readS _ _ _ _) MM) rfl rfl ?_)
      rintro v E ⟨hH, rfl⟩
      unfold HeadPost at hH
      cases hq : headOf l k with
      | none =>
        rw [hq] at hH hsn
        obtain ⟨h', rfl⟩ := hH
        dsimp only at hsn
        repeat (first | refine GD ?_ | refine NW fun _ => ?_)
        exact ⟨k + 1, by omega, by omega, ⟨rfl, rfl, rfl, by rw [hsn]; rfl, by rw [hsn]; rfl, rfl, trivial⟩, by rw [hsn]; exact II⟩
      | some x =>
        rw [hq] at hH hsn
        obtain rfl := hH
        dsimp only at hsn
        cases f with
        | false =>
          rw [if_pos (.inl rfl)] at hsn
          repeat (first | refine GD ?_ | refine NW fun _ => ?_)
          exact ⟨k + 1, by omega, by omega, ⟨rfl, rfl, rfl, by rw [hsn]; rfl, by rw [hsn]; rfl, rfl, trivial⟩, by rw [hsn]; exact II⟩
        | true =>
          by_cases hlt2 : h.turn < x.turn
          · rw [if_pos (.inr hlt2)] at hsn
            repeat (first | refine GD ?_ | refine NW fun _ => ?_)
            exact ⟨k + 1, by omega, by omega, ⟨rfl, rfl, rfl, by rw [hsn]; rfl, by rw [hsn]; rfl, rfl, trivial⟩, by rw [hsn]; exact II⟩
          · rw [if_neg (by simp [hlt2])] at hsn
            repeat (first | refine GD ?_ | refine NW fun _ => ?_)
            exact ⟨k + 1, by omega, by omega, ⟨rfl, rfl, rfl, by rw [hsn]; rfl, by rw [hsn]; rfl, rfl, trivial⟩, by rw [hsn]; exact II⟩
end Go.Proofs.YtanjfjiaheghcaaGreatDoor
/- Contracts of functions of the given program, and plain laws on what they compute: parts of the proofs of laws. -/

namespace Go.Proofs.YtanjfjiaheghcaaGreatDoor
open Go Go.GL

/-! the journal itself -/
def heldC (x : Held) : List Value := .int .i64 x.1 :: encR x.2
def jrnL (j p : Nat) (J : Jrn) (x : Option Addr × Nat) : List Assn :=
  [blk j [.pointer (some ⟨p, 0, none⟩), .int .i64 J.ring, .int .i64 J.hd.turn, .int .i64 J.hd.first, .int .i64 J.hd.gen, .int .i64 J.hd.low, .slice x.1 J.held.length x.2] 231,
   ownS x.1 J.held.length x.2 234 6 (J.held.flatMap heldC)]
def jrn (j p : Nat) (J : Jrn) : Assn := exA (jrnL j p J)
theorem up_jrn (j p : Nat) (J : Jrn) : Up (jrn j p J) := up_exA _
theorem jrnFold (j p : Nat) (J : Jrn) (x : Option Addr × Nat) {N : List Assn} : Imp
    (blk j [.pointer (some ⟨p, 0, none⟩), .int .i64 J.ring, .int .i64 J.hd.turn, .int .i64 J.hd.first, .int .i64 J.hd.gen, .int .i64 J.hd.low, .slice x.1 J.held.length x.2] 231 ::
      ownS x.1 J.held.length x.2 234 6 (J.held.flatMap heldC) :: N) (jrn j p J :: N) := Imp.fold (Ls := jrnL j p J) x
theorem heldC_len (x : Held) : (heldC x).length = 6 := rfl
structure Jrn.rng (J : Jrn) : Prop where
  ring : 1 ≤ J.ring ∧ J.ring ≤ 512
  len : J.held.length ≤ J.ring
  turn : 0 ≤ J.hd.turn ∧ J.hd.turn ≤ 4611686018427387904
  first : 0 ≤ J.hd.first ∧ J.hd.first ≤ 4611686018427387904
  gen : 0 ≤ J.hd.gen ∧ J.hd.gen ≤ 4611686018427387904
set_option maxRecDepth 10000 in
theorem jnext_ro (j p : Nat) (J : Jrn) (hJ : J.rng) : RO G 115 [.pointer (some ⟨j, 0, none⟩)] (jrn j p J) (.int .i64 J.next) := by
  refine RO.enterEx Tryz.func115 rfl (by decide) rfl Tryz.ntmps115 rfl (fun x A hu hA => ?_)
  have hB : ∀ {L}, A ∈ L → Ent L (cellsAt j 0 [.pointer (some ⟨p, 0, none⟩), .int .i64 J.ring, .int .i64 J.hd.turn, .int .i64 J.hd.first, .int .i64 J.hd.gen, .int .i64 J.hd.low, .slice x.1 J.held.length x.2]) := fun m => Ent.of hu hA m (Ent.whole (List.Mem.head _))
  obtain ⟨⟨r1, r2⟩, hlen, ⟨t1, t2⟩, ⟨f1, f2⟩, ⟨g1, g2⟩⟩ := hJ
  repeat (first | refine GD ?_ | refine NW fun _ => ?_)
  refine RD 12 12 (_) ?_
  refine WP 0 ?_
  refine WP 1 ?_
  refine WP 2 ?_
  refine WP 3 ?_
  refine VL 4 (.int .i64 J.hd.first) rfl rfl rfl rfl (.inl ⟨rfl, Ent.one (i := 3) (hB MM) rfl⟩) ?_
  refine WP 5 ?_
  refine WP 6 ?_
  refine WP 7 ?_
  refine VL 8 (.slice x.1 J.held.length x.2) rfl rfl rfl rfl (.inl ⟨rfl, Ent.one (i := 6) (hB MM) rfl⟩) ?_
  refine WP 9 ?_
  refine WP 10 ?_
  refine WP 11 ?_
  refine DN ?_
  repeat (first | refine GD ?_ | refine NW fun _ => ?_)
  exact ret1 rfl ⟨rfl, MM⟩
set_option maxRecDepth 10000 in
theorem jroom_ro (j p : Nat) (J : Jrn) (hJ : J.rng) : RO G 163 [.pointer (some ⟨j, 0, none⟩)] (jrn j p J) (.int .i64 ((J.ring : Int) - J.held.length)) := by
  refine RO.enterEx Tryz.func163 rfl (by decide) rfl Tryz.ntmps163 rfl (fun x A hu hA => ?_)
  have hB : ∀ {L}, A ∈ L → Ent L (cellsAt j 0 [.pointer (some ⟨p, 0, none⟩), .int .i64 J.ring, .int .i64 J.hd.turn, .int .i64 J.hd.first, .int .i64 J.hd.gen, .int .i64 J.hd.low, .slice x.1 J.held.length x.2]) := fun m => Ent.of hu hA m (Ent.whole (List.Mem.head _))
  obtain ⟨⟨r1, r2⟩, hlen, ⟨t1, t2⟩, ⟨f1, f2⟩, ⟨g1, g2⟩⟩ := hJ
  repeat (first | refine GD ?_ | refine NW fun _ => ?_)
  refine RD 11 11 (_) ?_
  refine WP 0 ?_
  refine WP 1 ?_
  refine WP 2 ?_
  refine VL 3 (.int .i64 J.ring) rfl rfl rfl rfl (.inl ⟨rfl, Ent.one (i := 1) (hB MM) rfl⟩) ?_
  refine WP 4 ?_
  refine WP 5 ?_
  refine WP 6 ?_
  refine VL 7 (.slice x.1 J.held.length x.2) rfl rfl rfl rfl (.inl ⟨rfl, Ent.one (i := 6) (hB MM) rfl⟩) ?_
  refine WP 8 ?_
  refine WP 9 ?_
  refine WP 10 ?_
  refine DN ?_
  repeat (first | refine GD ?_ | refine NW fun _ => ?_)
  exact ret1 rfl ⟨rfl, MM⟩
set_option maxRecDepth 10000 in
theorem jat_ro (j p : Nat) (J : Jrn) (hr : 1 ≤ J.ring ∧ J.ring ≤ 512) (seq : Int) (hs : 0 ≤ seq ∧ seq ≤ 9223372036854775807) : RO G 165 [.pointer (some ⟨j, 0, none⟩), .int .i64 seq] (jrn j p J) (.int .i64 (posM J.ring seq)) := by
  refine RO.enterEx Tryz.func165 rfl (by decide) rfl Tryz.ntmps165 rfl (fun x A hu hA => ?_)
  have hB : ∀ {L}, A ∈ L → Ent L (cellsAt j 0 [.pointer (some ⟨p, 0, none⟩), .int .i64 J.ring, .int .i64 J.hd.turn, .int .i64 J.hd.first, .int .i64 J.hd.gen, .int .i64 J.hd.low, .slice x.1 J.held.length x.2]) := fun m => Ent.of hu hA m (Ent.whole (List.Mem.head _))
  obtain ⟨r1, r2⟩ := hr
  have hm := Int.emod_nonneg seq (b := (J.ring : Int)) (by omega)
  have hm2 := Int.emod_lt_of_pos seq (b := (J.ring : Int)) (by omega)
  have e : ((posM J.ring seq : Nat) : Int) = 2 + seq % J.ring := by unfold posM; omega
  rw [e]
  repeat (first | refine GO ?_ | refine NW fun _ => ?_)
  refine WL.step rfl (OP.load1 (v := .int .i64 J.ring) rfl rfl rfl rfl (Ent.one (i := 1) (hB MM) rfl) rfl rfl ?_)
  repeat (first | refine GO ?_ | refine NW fun _ => ?_)
  exact ret1 rfl ⟨rfl, MM⟩
set_option maxHeartbeats 1000000 in
set_option maxRecDepth 10000 in
theorem jsave_ok (j p : Nat) (J : Jrn) (D : Dsk) (hJ : 0 ≤ J.hd.turn ∧ J.hd.turn ≤ 4611686018427387904) (hD : D.ok) (hl : 2 ≤ D.S.length) (hw : D.W.length < 10000) :
    Triple G 145 [.pointer (some ⟨j, 0, none⟩)] [jrn j p J, dsk p D] (fun v M => v = .tuple #[] ∧ M = [jrn j p { J with hd := J.hd.up }, dsk p (saveM D J.hd.up)]) := by
  refine Triple.enter Tryz.func145 rfl (by decide) rfl Tryz.ntmps145 rfl (fun F => ?_)
  refine WC.open P1 (fun x => ?_)
  unfold jrnL
  dsimp only [List.cons_append, List.nil_append]
  have hu : J.hd.up = ⟨J.hd.turn + 1, J.hd.first, J.hd.gen, J.hd.low⟩ := rfl
  have hb := headS_len J.hd.up
  have hi : (0 ≤ (J.hd.turn + 1) % 2 ∧ (J.hd.turn + 1) % 2 < D.S.length) ∧ (headS J.hd.up).length = 64 := ⟨by omega, hb⟩
  have hws := dwrite_ok p D ((J.hd.turn + 1) % 2) (headS J.hd.up)
  repeat (first | refine GO ?_ | refine NW fun _ => ?_)
  refine RD 15 16 (_) ?_
  refine WP 0 ?_
  refine WP 1 ?_
  refine WP 2 ?_
  refine VV 3 ?_
  refine WP 4 ?_
  refine WP 5 ?_
  refine WP 6 ?_
  refine WP 7 ?_
  refine VV 8 ?_
  refine WP 9 ?_
  refine WP 10 ?_
  refine WP 11 ?_
  refine WP 12 ?_
  refine VV 13 ?_
  refine WH.only 14 rfl rfl (by kernel_rfl) rfl (OP.callRT rfl rfl (hsector_rt J.hd.up) (fun _ _ => trivial) rfl rfl (fun v E hE' => ?_))
  obtain ⟨a6, cap6, rfl, rfl⟩ := hE'
  refine ⟨fun _ => II, ?_⟩
  refine WH.only 15 rfl rfl (by kernel_rfl) rfl (OP.call (pre := [dsk p D, ownS a6 (headS J.hd.up).length cap6 5 1 ((headS J.hd.up).map byteV)]) rfl rfl (hws a6 cap6 (by omega) (by omega)) PS rfl rfl (fun v M hM => ?_))
  unfold WrPost at hM
  rw [if_pos hi] at hM
  obtain ⟨rfl, rfl⟩ := hM
  refine ⟨(fun h => nomatch h), ?_⟩
  refine DN ?_
  repeat (first | refine GO ?_ | refine NW fun _ => ?_)
  refine WL.step rfl (OP.call (pre := [dsk p (D.put ((J.hd.turn + 1) % 2).toNat (headS J.hd.up))]) rfl rfl (dflush_ok p _ (Dsk.put_ok hD (by omega) hb) (by simp [Dsk.put]; omega)) PS rfl rfl ?_)
  rintro _ _ ⟨rfl, rfl⟩
  repeat (first | refine GO ?_ | refine NW fun _ => ?_)
  refine ret0n ⟨_, ⟨rfl, rfl⟩, Imp.foldP (N := [dsk p (saveM D J.hd.up), F]) x ?_ II⟩
  unfold jrnL
  exact (by repeat (first | exact Picks.nil _ | apply Picks.cons | exact Pick.here _ _ | apply Pick.there))
end Go.Proofs.YtanjfjiaheghcaaGreatDoor
/- Contracts of functions of the given program, and plain laws on what they compute: parts of the proofs of laws. -/

namespace Go.Proofs.YtanjfjiaheghcaaGreatDoor
open Go Go.GL

set_option maxHeartbeats 8000000 in
set_option maxRecDepth 10000 in
theorem jscan_ok (j p : Nat) (ring : Nat) (h : Hd) (D : Dsk) (hr : 1 ≤ ring ∧ ring ≤ 512) (hf : 0 ≤ h.first ∧ h.first ≤ 4611686018427387904) (hD : D.ok) (hl : 2 + ring ≤ D.S.length) (hw : D.W.length < 10000) (ht : 0 ≤ h.turn ∧ h.turn ≤ 4611686018427387904) (hg : 0 ≤ h.gen ∧ h.gen ≤ 4611686018427387904) :
    Triple G 149 [.pointer (some ⟨j, 0, none⟩)] [jrn j p ⟨ring, h, []⟩, dsk p D] (fun v M => v = .tuple #[] ∧ M = [jrn j p ⟨ring, h, scanM D ring h⟩, dsk p D]) := by
  refine Triple.enter Tryz.func149 rfl (by decide) rfl Tryz.ntmps149 rfl (fun F => ?_)
  refine WC.open P1 (fun x => ?_)
  unfold jrnL
  dsimp only [List.cons_append, List.nil_append]
  refine WC.scope ?_
  repeat (first | refine GO ?_ | refine NW fun _ => ?_)
  refine WC.label ?_
  repeat (first | refine GO ?_ | refine NW fun _ => ?_)
  refine WC.loop (σ := Nat × List Held × Int) (fun s => s.2.1.length + s.1 = ring ∧ scanF D ring h s.1 s.2.1 s.2.2 = scanM D ring h)
    (fun s => [(0, .val (.pointer (some ⟨j, 0, none⟩))), (2, .val (.int .i64 s.2.2))])
    (fun s => [jrn j p ⟨ring, h, s.2.1⟩, dsk p D, F]) (fun s => s.1) (ring, [], h.low) ⟨by simp, rfl⟩ ⟨rfl, rfl, trivial⟩ ?_ ?_
  · refine Imp.foldP (N := [dsk p D, F]) x ?_ (Imp.refl _)
    unfold jrnL
    exact (by repeat (first | exact Picks.nil _ | apply Picks.cons | exact Pick.here _ _ | apply Pick.there))
  rintro ⟨k, l, low⟩ ⟨hk, hs⟩
  dsimp only at hk hs ⊢
  refine WC.open P1 (fun x => ?_)
  unfold jrnL
  dsimp only [List.cons_append, List.nil_append]
  cases k with
  | zero =>
    have hout : scanM D ring h = l := hs.symm
    have hkl : ring = l.length := by omega
    repeat (first | refine GD ?_ | refine NW fun _ => ?_)
    refine RD 10 10 (_) ?_
    refine WP 0 ?_
    refine WP 1 ?_
    refine WP 2 ?_
    refine VV 3 ?_
    refine WP 4 ?_
    refine WP 5 ?_
    refine WP 6 ?_
    refine WP 7 ?_
    refine VV 8 ?_
    refine WP 9 ?_
    refine DN ?_
    rw [decide_eq_false (show ¬ (l.length : Int) < ring by omega)]
    repeat (first | refine GD ?_ | refine NW fun _ => ?_)
    repeat (first | refine blockK.hit rfl ?_ | refine blockK.miss rfl ?_ | refine seqK.exit ?_ | refine loopK.exit ?_ | refine scopeK.normal ?_)
    refine ret0n ⟨[jrn j p ⟨ring, h, scanM D ring h⟩, dsk p D], ⟨rfl, rfl⟩, ?_⟩
    rw [hout]
    exact Imp.trans II (jrnFold j p ⟨ring, h, l⟩ x)
  | succ k =>
    have hkl : l.length < ring := by omega
    repeat (first | refine GD ?_ | refine NW fun _ => ?_)
    refine RD 10 10 (_) ?_
    refine WP 0 ?_
    refine WP 1 ?_
    refine WP 2 ?_
    refine VV 3 ?_
    refine WP 4 ?_
    refine WP 5 ?_
    refine WP 6 ?_
    refine WP 7 ?_
    refine VV 8 ?_
    refine WP 9 ?_
    refine DN ?_
    rw [decide_eq_true (show (l.length : Int) < ring by omega)]
    have hJ : (⟨ring, h, l⟩ : Jrn).rng := ⟨hr, by dsimp only; omega, ht, hf, hg⟩
    have hnx : (⟨ring, h, l⟩ : Jrn).next = h.first + l.length := rfl
    have hpb := pos_bd hr.1 (h.first + l.length)
    have hfit : scanF D ring h (k + 1) l low = match fits (D.cur (posM ring (h.first + l.length))) (h.first + l.length) low h.gen with
      | some x => scanF D ring h k (l ++ [x]) x.1
      | none => l := rfl
    rw [hfit] at hs
    have h64 := Dsk.cur_64 hD (show posM ring (h.first + l.length) < D.S.length by omega)
    have hrd := dread_rt p D (posM ring (h.first + l.length)) hD (by omega)
    unfold DReadPost at hrd
    rw [Int.toNat_natCast] at hrd
    generalize hb : D.cur (posM ring (h.first + l.length)) = b at *
    have hdec := fun (q : Nat) => decode5_ok (some ⟨q, 0, none⟩) 64 64 b h64.symm (Nat.le_refl _) (by decide)
    have hEJ : ∀ {L : List Assn}, Imp L (jrnL j p ⟨ring, h, l⟩ x) → Ent L (jrn j p ⟨ring, h, l⟩) := fun i => Ent.exI x i
    repeat (first | refine GD ?_ | refine NW fun _ => ?_)
    refine WL.step rfl (OP.callRO rfl rfl (jnext_ro j p ⟨ring, h, l⟩ hJ) (hEJ (by unfold jrnL; exact II)) rfl rfl ?_)
    rw [hnx]
    repeat (first | refine GD ?_ | refine NW fun _ => ?_)
    refine RD 13 13 (_) ?_
    refine WP 0 ?_
    refine WP 1 ?_
    refine WP 2 ?_
    refine VV 3 ?_
    refine WP 4 ?_
    refine WP 5 ?_
    refine WH.only 6 rfl rfl (by kernel_rfl) rfl (OP.callRO rfl rfl (jat_ro j p ⟨ring, h, l⟩ hr (h.first + l.length) (by omega)) (hEJ (by unfold jrnL; exact II)) rfl rfl ⟨fun _ => II, ?_⟩)
    dsimp only
    refine WH.only 7 rfl rfl (by kernel_rfl) rfl (OP.callRT rfl rfl hrd (Ent.at (up_dsk p D) MM) rfl rfl (fun v E hE' => ?_))
    rw [if_pos (by omega)] at hE'
    obtain ⟨br, rfl, rfl⟩ := hE'
    refine ⟨fun _ => II, ?_⟩
    refine WP 8 ?_
    refine WP 9 ?_
    refine WP 10 ?_
    refine WP 11 ?_
    refine WP 12 ?_
    refine DN ?_
    repeat (first | refine GD ?_ | refine NW fun _ => ?_)
    refine WL.step rfl (OP.callRT rfl rfl (hdec br) (Ent.at (up_readS _ _ _ _) MM) rfl rfl ?_)
    rintro v E hDec
    unfold DecPost at hDec
    cases hq : decR b with
    | error c =>
      rw [hq] at hDec
      obtain ⟨e, rfl, b1, rfl, rfl⟩ := hDec
      have hfn : fits b (h.first + l.length) low h.gen = none := fits_none (fun x hx => by rw [hq] at hx; cases hx)
      rw [hfn] at hs
      have hout : scanM D ring h = l := hs.symm
      repeat (first | refine GD ?_ | refine NW fun _ => ?_)
      repeat (first | refine blockK.hit rfl ?_ | refine blockK.miss rfl ?_ | refine seqK.exit ?_ | refine loopK.exit ?_ | refine scopeK.normal ?_)
      refine ret0n ⟨[jrn j p ⟨ring, h, scanM D ring h⟩, dsk p D], ⟨rfl, rfl⟩, ?_⟩
      rw [hout]
      exact Imp.trans II (jrnFold j p ⟨ring, h, l⟩ x)
    | ok y =>
      obtain ⟨g, r⟩ := y
      rw [hq] at hDec
      obtain ⟨rfl, rfl⟩ := hDec
      by_cases h1 : r.1 = h.first + l.length
      rotate_left
      · have hfn : fits b (h.first + l.length) low h.gen = none := by unfold fits; rw [hq]; dsimp only; rw [if_neg (fun h => h1 h.1)]
        rw [hfn] at hs
        have hout : scanM D ring h = l := hs.symm
        repeat (first | refine GD ?_ | refine NW fun _ => ?_)
        repeat (first | refine blockK.hit rfl ?_ | refine blockK.miss rfl ?_ | refine seqK.exit ?_ | refine loopK.exit ?_ | refine scopeK.normal ?_)
        refine ret0n ⟨[jrn j p ⟨ring, h, scanM D ring h⟩, dsk p D], ⟨rfl, rfl⟩, ?_⟩
        rw [hout]
        exact Imp.trans II (jrnFold j p ⟨ring, h, l⟩ x)
      by_cases h2 : low ≤ g
      rotate_left
      · have hfn : fits b (h.first + l.length) low h.gen = none := by unfold fits; rw [hq]; dsimp only; rw [if_neg (fun h => h2 h.2.1)]
        rw [hfn] at hs
        have hout : scanM D ring h = l := hs.symm
        repeat (first | refine GD ?_ | refine NW fun _ => ?_)
        repeat (first | refine blockK.hit rfl ?_ | refine blockK.miss rfl ?_ | refine seqK.exit ?_ | refine loopK.exit ?_ | refine scopeK.normal ?_)
        refine ret0n ⟨[jrn j p ⟨ring, h, scanM D ring h⟩, dsk p D], ⟨rfl, rfl⟩, ?_⟩
        rw [hout]
        exact Imp.trans II (jrnFold j p ⟨ring, h, l⟩ x)
      by_cases h3 : g ≤ h.gen
      rotate_left
      · have hfn : fits b (h.first + l.length) low h.gen = none := by unfold fits; rw [hq]; dsimp only; rw [if_neg (fun h => h3 h.2.2)]
        rw [hfn] at hs
        have hout : scanM D ring h = l := hs.symm
        repeat (first | refine GD ?_ | refine NW fun _ => ?_)
        repeat (first | refine blockK.hit rfl ?_ | refine blockK.miss rfl ?_ | refine seqK.exit ?_ | refine loopK.exit ?_ | refine scopeK.normal ?_)
        refine ret0n ⟨[jrn j p ⟨ring, h, scanM D ring h⟩, dsk p D], ⟨rfl, rfl⟩, ?_⟩
        rw [hout]
        exact Imp.trans II (jrnFold j p ⟨ring, h, l⟩ x)
      have hfn : fits b (h.first + l.length) low h.gen = some (g, r) := by unfold fits; rw [hq]; dsimp only; rw [if_pos ⟨h1, h2, h3⟩]
      rw [hfn] at hs
      dsimp only at hs
      repeat (first | refine GD ?_ | refine NW fun _ => ?_)
      have hen : encR r = [.int .i64 r.1, .int .i64 r.2.1, .int .i64 r.2.2.1, .string r.2.2.2.1, .int .i64 r.2.2.2.2] := rfl
      refine RD 9 13 (_) ?_
      refine WP 0 ?_
      refine WP 1 ?_
      refine WP 2 ?_
      refine WP 3 ?_
      refine VV 4 ?_
      refine WP 5 ?_
      refine VL 6 (.agg (encR r).toArray) rfl rfl rfl rfl (.inr ⟨rfl, encR r, rfl, rfl, Ent.whole MM⟩) ?_
      refine WH.only 7 rfl rfl (by kernel_rfl) rfl (OP.buildT rfl rfl rfl rfl ⟨fun _ => II, ?_⟩)
      refine WH.only 8 rfl rfl (by kernel_rfl) rfl (OP.sliceLit (c := heldC (g, r)) rfl rfl rfl rfl rfl rfl rfl rfl (fun b2 => ⟨fun _ => II, ?_⟩))
      refine WH.only 9 rfl rfl (by kernel_rfl) rfl (OP.append rfl rfl rfl rfl rfl rfl rfl rfl rfl P1 (Ent.own MM) rfl (by omega) (by omega) rfl rfl (fun a' cap' => ⟨(fun h => nomatch h), ?_⟩))
      refine WP 10 ?_
      refine WP 11 ?_
      refine WH.only 12 rfl rfl (by kernel_rfl) rfl (OP.store rfl rfl rfl rfl rfl rfl rfl UP rfl ⟨(fun h => nomatch h), ?_⟩)
      refine DN ?_
      refine ⟨(k, l ++ [(g, r)], g), ⟨by simp; omega, hs⟩, Nat.lt_succ_self k, ⟨rfl, rfl, trivial⟩, ?_⟩
      dsimp only
      refine Imp.trans ?_ (jrnFold j p ⟨ring, h, l ++ [(g, r)]⟩ (a', cap'))
      dsimp only
      rw [List.length_append, List.flatMap_append, List.flatMap_cons, List.flatMap_nil, List.append_nil]
      exact II
end Go.Proofs.YtanjfjiaheghcaaGreatDoor
/- Contracts of functions of the given program, and plain laws on what they compute: parts of the proofs of laws. -/

namespace Go.Proofs.YtanjfjiaheghcaaGreatDoor
open Go Go.GL

def jrnT : ByteArray := ⟨#[106, 111, 117, 114, 110, 97, 108]⟩
theorem headOf_wide {b : List UInt8} {slot : Int} {h : Hd} (e : headOf b slot = some h) : (0 ≤ h.turn ∧ h.turn ≤ widest) ∧ (0 ≤ h.first ∧ h.first ≤ widest) ∧ (0 ≤ h.gen ∧ h.gen ≤ widest) := by
  unfold headOf at e
  split at e
  · simp only [Option.some.injEq] at e
    subst e
    unfold hd4
    exact ⟨numR_wide _, numR_wide _, numR_wide _⟩
  · cases e
theorem newestM_wide {a b : List UInt8} {h : Hd} (e : newestM a b = some h) : (0 ≤ h.turn ∧ h.turn ≤ widest) ∧ (0 ≤ h.first ∧ h.first ≤ widest) ∧ (0 ≤ h.gen ∧ h.gen ≤ widest) := by
  have hz : (0 ≤ hd0.turn ∧ hd0.turn ≤ widest) ∧ (0 ≤ hd0.first ∧ hd0.first ≤ widest) ∧ (0 ≤ hd0.gen ∧ hd0.gen ≤ widest) := by decide
  unfold newestM at e
  split at e
  · rename_i x y hx hy
    split at e
    · cases e; exact headOf_wide hy
    · cases e; exact headOf_wide hx
  · rename_i x hx hy; cases e; exact headOf_wide hx
  · rename_i y hx hy; cases e; exact headOf_wide hy
  · split at e
    · cases e; exact hz
    · cases e
theorem scanF_len (D : Dsk) (ring : Nat) (h : Hd) : ∀ (k : Nat) (l : List Held) (low : Int), (scanF D ring h k l low).length ≤ l.length + k
  | 0, l, low => Nat.le_refl _
  | k + 1, l, low => by
    rw [scanF]
    split
    · rename_i x hx
      have := scanF_len D ring h k (l ++ [x]) x.1
      simp at this ⊢
      omega
    · omega
theorem scanM_len (D : Dsk) (ring : Nat) (h : Hd) : (scanM D ring h).length ≤ ring := by
  have := scanF_len D ring h ring [] h.low
  simp only [List.length_nil, Nat.zero_add] at this
  exact this
def OpenJ (p : Nat) (D : Dsk) (ring : Int) (v : Value) (M : List Assn) : Prop := match openM D ring with
  | .ok (J, D') => ∃ j, v = .tuple #[.pointer (some ⟨j, 0, none⟩), .nilIface] ∧ M = [jrn j p J, dsk p D']
  | .error c => ∃ e E, IsEr (some ([(jrnT, ring)], c)) e E ∧ v = .tuple #[.pointer none, e] ∧ M = E ++ [dsk p D]
set_option maxHeartbeats 2000000 in
set_option maxRecDepth 10000 in
theorem jopen_ok (p : Nat) (D : Dsk) (ring : Int) (hD : D.ok) (hw : D.W.length < 10000) (hr64 : -9223372036854775808 ≤ ring ∧ ring ≤ 9223372036854775807) :
    Triple G 123 [.pointer (some ⟨p, 0, none⟩), .int .i64 ring] [dsk p D] (OpenJ p D ring) := by
  refine Triple.enter Tryz.func123 rfl (by decide) rfl Tryz.ntmps123 rfl (fun F => ?_)
  have hwd : widest = 1152921504606846975 := rfl
  have hfew := hD.few
  have hdef : openM D ring = if ring < 1 ∨ 512 < ring ∨ (D.S.length : Int) < 2 + ring then .error 1
    else match newestM (D.cur 0) (D.cur 1) with
    | none => .error 4
    | some h => .ok (⟨ring.toNat, { h with gen := h.gen + 1, turn := h.turn + 1 }, scanM D ring.toNat h⟩, saveM D { h with gen := h.gen + 1, turn := h.turn + 1 }) := rfl
  by_cases h1 : ring < 1
  · have hop : openM D ring = .error 1 := by rw [hdef, if_pos (.inl h1)]
    repeat (first | refine GD ?_ | refine NW fun _ => ?_)
    refine WL.step rfl (OP.call (pre := []) rfl rfl (wrap_ok jrnT ring 1 (by decide)) PS rfl rfl ?_)
    intro v M hF
    obtain ⟨M', h1, h2⟩ := hF.isEr
    repeat (first | refine GD ?_ | refine NW fun _ => ?_)
    refine ret2 rfl rfl ⟨M' ++ [dsk p D], ?_, ?_⟩
    · unfold OpenJ
      rw [hop]
      exact ⟨v, M', h1, rfl, rfl⟩
    · rw [List.append_assoc]
      exact (Imp.app h2 _).trans (Imp.appL II _)
  by_cases h2 : 512 < ring
  · have hop : openM D ring = .error 1 := by rw [hdef, if_pos (.inr (.inl h2))]
    repeat (first | refine GD ?_ | refine NW fun _ => ?_)
    refine WL.step rfl (OP.call (pre := []) rfl rfl (wrap_ok jrnT ring 1 (by decide)) PS rfl rfl ?_)
    intro v M hF
    obtain ⟨M', h1, h2⟩ := hF.isEr
    repeat (first | refine GD ?_ | refine NW fun _ => ?_)
    refine ret2 rfl rfl ⟨M' ++ [dsk p D], ?_, ?_⟩
    · unfold OpenJ
      rw [hop]
      exact ⟨v, M', h1, rfl, rfl⟩
    · rw [List.append_assoc]
      exact (Imp.app h2 _).trans (Imp.appL II _)
  repeat (first | refine GD ?_ | refine NW fun _ => ?_)
  refine WL.guardT rfl rfl rfl rfl (OP.callRO rfl rfl (dlen_ro p D) (Ent.at (up_dsk p D) MM) rfl rfl ?_)
  by_cases h3 : (D.S.length : Int) < 2 + ring
  · have hop : openM D ring = .error 1 := by rw [hdef, if_pos (.inr (.inr h3))]
    repeat (first | refine GD ?_ | refine NW fun _ => ?_)
    refine WL.step rfl (OP.call (pre := []) rfl rfl (wrap_ok jrnT ring 1 (by decide)) PS rfl rfl ?_)
    intro v M hF
    obtain ⟨M', h1, h2⟩ := hF.isEr
    repeat (first | refine GD ?_ | refine NW fun _ => ?_)
    refine ret2 rfl rfl ⟨M' ++ [dsk p D], ?_, ?_⟩
    · unfold OpenJ
      rw [hop]
      exact ⟨v, M', h1, rfl, rfl⟩
    · rw [List.append_assoc]
      exact (Imp.app h2 _).trans (Imp.appL II _)
  rw [if_neg (by omega)] at hdef
  have hnw := newest_rt p D hD (by omega) (by omega)
  repeat (first | refine GD ?_ | refine NW fun _ => ?_)
  refine WL.step rfl (OP.callRT rfl rfl hnw (Ent.at (up_dsk p D) MM) rfl rfl ?_)
  rintro v E ⟨hN, rfl⟩
  unfold NewHdP at hN
  cases hq : newestM (D.cur 0) (D.cur 1) with
  | none =>
    rw [hq] at hN hdef
    obtain ⟨h', rfl⟩ := hN
    have hop : openM D ring = .error 4 := hdef
    repeat (first | refine GD ?_ | refine NW fun _ => ?_)
    refine WL.step rfl (OP.call (pre := []) rfl rfl (wrap_ok jrnT ring 4 (by decide)) PS rfl rfl ?_)
    intro v M hF
    obtain ⟨M', h1, h2⟩ := hF.isEr
    repeat (first | refine GD ?_ | refine NW fun _ => ?_)
    refine ret2 rfl rfl ⟨M' ++ [dsk p D], ?_, ?_⟩
    · unfold OpenJ
      rw [hop]
      exact ⟨v, M', h1, rfl, rfl⟩
    · rw [List.append_assoc]
      exact (Imp.app h2 _).trans (Imp.appL II _)
  | some h =>
    rw [hq] at hN hdef
    obtain rfl := hN
    obtain ⟨⟨t1, t2⟩, ⟨f1, f2⟩, ⟨g1, g2⟩⟩ := newestM_wide hq
    obtain ⟨n, rfl⟩ : ∃ n : Nat, ring = n := ⟨ring.toNat, by omega⟩
    rw [Int.toNat_natCast] at hdef
    dsimp only at hdef
    have hsl := scanM_len D n h
    have hsc := fun j => jscan_ok j p n h D ⟨by omega, by omega⟩ ⟨f1, by omega⟩ hD (by omega) hw ⟨t1, by omega⟩ ⟨g1, by omega⟩
    repeat (first | refine GD ?_ | refine NW fun _ => ?_)
    rename_i j
    refine WL.imp (M := [jrn j p ⟨n, h, []⟩, dsk p D, F]) ((Imp.nilS 234 6).trans (Imp.trans II (jrnFold j p ⟨n, h, []⟩ (none, 0)))) ?_
    refine WL.step rfl (OP.call (pre := [jrn j p ⟨n, h, []⟩, dsk p D]) rfl rfl (hsc j) PS rfl rfl ?_)
    rintro _ _ ⟨rfl, rfl⟩
    have hsv := jsave_ok j p ⟨n, ⟨h.turn, h.first, h.gen + 1, h.low⟩, scanM D n h⟩ D ⟨t1, by dsimp only; omega⟩ hD (by omega) hw
    generalize scanM D n h = l at *
    refine WL.open P1 (fun x => ?_)
    unfold jrnL
    dsimp only [List.cons_append, List.nil_append]
    repeat (first | refine GD ?_ | refine NW fun _ => ?_)
    refine WL.imp (M := [jrn j p ⟨n, ⟨h.turn, h.first, h.gen + 1, h.low⟩, l⟩, dsk p D, F]) (Imp.trans II (jrnFold j p ⟨n, ⟨h.turn, h.first, h.gen + 1, h.low⟩, l⟩ x)) ?_
    refine WL.step rfl (OP.call (pre := [jrn j p ⟨n, ⟨h.turn, h.first, h.gen + 1, h.low⟩, l⟩, dsk p D]) rfl rfl hsv PS rfl rfl ?_)
    rintro _ _ ⟨rfl, rfl⟩
    repeat (first | refine GD ?_ | refine NW fun _ => ?_)
    refine ret2 rfl rfl ⟨_, ?_, Imp.refl _⟩
    unfold OpenJ
    rw [hdef]
    exact ⟨j, rfl, rfl⟩
set_option maxRecDepth 10000 in
theorem jflush_ok (j p : Nat) (J : Jrn) (D : Dsk) (hD : D.ok) (hw : D.W.length < 10000) :
    Triple G 109 [.pointer (some ⟨j, 0, none⟩)] [jrn j p J, dsk p D] (fun v M => v = .tuple #[] ∧ M = [jrn j p J, dsk p D.flush]) := by
  refine Triple.enter Tryz.func109 rfl (by decide) rfl Tryz.ntmps109 rfl (fun F => ?_)
  refine WC.open P1 (fun x => ?_)
  unfold jrnL
  dsimp only [List.cons_append, List.nil_append]
  repeat (first | refine GO ?_ | refine NW fun _ => ?_)
  refine WL.step rfl (OP.call (pre := [dsk p D]) rfl rfl (dflush_ok p D hD (by omega)) PS rfl rfl ?_)
  rintro _ _ ⟨rfl, rfl⟩
  repeat (first | refine GO ?_ | refine NW fun _ => ?_)
  exact ret0n ⟨_, ⟨rfl, rfl⟩, Imp.trans II (jrnFold j p J x)⟩
/-- what is told: the records -/
def RecsPost (l : List Held) (v : Value) (E : List Assn) : Prop := ∃ a cap, v = .slice a l.length cap ∧ E = [ownS a l.length cap 140 5 (l.flatMap (fun x => encR x.2))]
set_option maxHeartbeats 1000000 in
set_option maxRecDepth 10000 in
theorem jrecords_rt (j p : Nat) (J : Jrn) (hJ : J.rng) : RT G 114 [.pointer (some ⟨j, 0, none⟩)] (jrn j p J) (RecsPost J.held) := by
  refine RT.enterEx Tryz.func114 rfl (by decide) rfl Tryz.ntmps114 rfl (fun x A hu hA => ?_)
  have hB : ∀ {L}, A ∈ L → Ent L (cellsAt j 0 [.pointer (some ⟨p, 0, none⟩), .int .i64 J.ring, .int .i64 J.hd.turn, .int .i64 J.hd.first, .int .i64 J.hd.gen, .int .i64 J.hd.low, .slice x.1 J.held.length x.2]) := fun m => Ent.of hu hA m (Ent.whole (List.Mem.head _))
  have hH : ∀ {L}, A ∈ L → Ent L (readS x.1 J.held.length 6 (J.held.flatMap heldC)) := fun m => Ent.of hu hA m (Ent.own (List.Mem.tail _ (List.Mem.head _)))
  obtain ⟨⟨r1, r2⟩, hlen, _, _, _⟩ := hJ
  obtain ⟨ring, hd, l⟩ := J
  dsimp only at hB hH hlen r2 ⊢
  repeat (first | refine GO ?_ | refine NW fun _ => ?_)
  refine WL.step rfl (OP.load1 (v := .slice x.1 l.length x.2) rfl rfl rfl rfl (Ent.one (i := 6) (hB MM) rfl) rfl rfl ?_)
  repeat (first | refine GO ?_ | refine NW fun _ => ?_)
  refine WC.imp (Imp.nilS 140 5) ?_
  refine WC.loop (σ := Nat × Option Addr × Nat) (fun s => s.1 ≤ l.length)
    (fun s => [(0, .val (.pointer (some ⟨j, 0, none⟩))), (3, .val (.slice s.2.1 s.1 s.2.2)), (11, .val (.slice x.1 l.length x.2)), (12, .val (.int .i64 l.length)), (13, .val (.int .i64 s.1))])
    (fun s => [ownS s.2.1 s.1 s.2.2 140 5 ((l.take s.1).flatMap (fun x => encR x.2)), A]) (fun s => l.length - s.1) (0, none, 0) (Nat.zero_le _) ⟨rfl, rfl, rfl, rfl, rfl, trivial⟩ (Imp.refl _) ?_
  rintro ⟨k, a, cap⟩ hk
  dsimp only at hk ⊢
  by_cases hlt : k < l.length
  rotate_left
  · have he : k = l.length := by omega
    subst he
    rw [List.take_length]
    repeat (first | refine GD ?_ | refine NW fun _ => ?_)
    exact ret1 rfl ⟨_, ⟨a, cap, rfl, rfl⟩, Imp.refl _⟩
  have hsn : (l.take (k + 1)).flatMap (fun x => encR x.2) = (l.take k).flatMap (fun x => encR x.2) ++ encR l[k].2 := by
    rw [← List.take_append_getElem hlt, List.flatMap_append, List.flatMap_cons, List.flatMap_nil, List.append_nil]
  refine WC.fact (Ent.some (hH MM) (by omega)) ?_
  rintro ⟨b, off, hx⟩
  rw [hx]
  rw [hx] at hH
  repeat (first | refine GD ?_ | refine NW fun _ => ?_)
  refine WL.step rfl (OP.loadA (l := heldC l[k]) rfl rfl rfl rfl (Ent.elA heldC_len (hH MM) hlt) rfl rfl rfl ?_)
  generalize l[k] = e at *
  obtain ⟨g, r⟩ := e
  dsimp only at hsn
  repeat (first | refine GD ?_ | refine NW fun _ => ?_)
  refine WL.step rfl (OP.append (ds := encR r) rfl rfl rfl rfl rfl rfl rfl rfl rfl P1 (Ent.own MM) rfl (by omega) (by omega) rfl rfl (fun a' cap' => ?_))
  repeat (first | refine GD ?_ | refine NW fun _ => ?_)
  exact ⟨(k + 1, a', cap'), by dsimp only; omega, by dsimp only; omega, ⟨rfl, rfl, rfl, rfl, rfl, trivial⟩, by dsimp only; rw [hsn]; exact II⟩
end Go.Proofs.YtanjfjiaheghcaaGreatDoor
/- Contracts of functions of the given program, and plain laws on what they compute: parts of the proofs of laws. -/

namespace Go.Proofs.YtanjfjiaheghcaaGreatDoor
open Go Go.GL

/-- the faults of an append -/
def appEr (J : Jrn) (c : Int) : List (ByteArray × Int) := if c = 6 then [(jrnT, J.next)] else [(jrnT, J.next), (recW, J.next)]
def AppJ (j p : Nat) (J : Jrn) (D : Dsk) (r : Rec) (v : Value) (M : List Assn) : Prop := match appendM J D r with
  | .ok (J', D') => v = .tuple #[.int .i64 J.next, .nilIface] ∧ M = [jrn j p J', dsk p D']
  | .error c => ∃ e E, IsEr (some (appEr J c, c)) e E ∧ v = .tuple #[.int .i64 0, e] ∧ M = E ++ [jrn j p J, dsk p D]
set_option maxHeartbeats 8000000 in
set_option maxRecDepth 10000 in
theorem jappend_ok (j p : Nat) (J : Jrn) (D : Dsk) (r : Rec) (hJ : J.rng) (hl : 2 + J.ring ≤ D.S.length) (hw : D.W.length < 10000) (hsz : r.2.2.2.1.size < 1000000) :
    Triple G 141 [.pointer (some ⟨j, 0, none⟩), .agg (encR r).toArray] [jrn j p J, dsk p D] (AppJ j p J D r) := by
  refine Triple.enter Tryz.func141 rfl (by decide) rfl Tryz.ntmps141 rfl (fun F => ?_)
  have hnext := jnext_ro j p J hJ
  have hroom := jroom_ro j p J hJ
  have hdef : appendM J D r = if J.held.length = J.ring then .error 6
    else if RightR (setSeq r J.next) ∧ (0 ≤ J.hd.gen ∧ J.hd.gen ≤ widest) then
    .ok ({ J with held := J.held ++ [(J.hd.gen, setSeq r J.next)] }, D.put (posM J.ring J.next) (sectorM (bodyM J.hd.gen (setSeq r J.next))))
    else .error 1 := rfl
  have hnx : J.next = J.hd.first + J.held.length := rfl
  obtain ⟨⟨r1, r2⟩, hlen, ⟨t1, t2⟩, ⟨f1, f2⟩, ⟨g1, g2⟩⟩ := hJ
  have hn0 : 0 ≤ J.next ∧ J.next ≤ 9000000000000000000 := by omega
  have hat := jat_ro j p J ⟨r1, r2⟩ J.next (by omega)
  have hpb := pos_bd r1 J.next
  obtain ⟨seq, kind, block, data, num⟩ := r
  have hss : setSeq (seq, kind, block, data, num) J.next = (J.next, kind, block, data, num) := rfl
  rw [hss] at hdef
  dsimp only at hsz
  have henc := encode_ok J.hd.gen (J.next, kind, block, data, num) hsz
  unfold EncPost at henc
  rw [show encR (seq, kind, block, data, num) = [.int .i64 seq, .int .i64 kind, .int .i64 block, .string data, .int .i64 num] from rfl]
  rw [show encR (J.next, kind, block, data, num) = [.int .i64 J.next, .int .i64 kind, .int .i64 block, .string data, .int .i64 num] from rfl] at henc
  have hwr := dwrite_ok p D (posM J.ring J.next) (sectorM (bodyM J.hd.gen (J.next, kind, block, data, num)))
  have hEJ : ∀ {L : List Assn} {x}, Imp L (jrnL j p J x) → Ent L (jrn j p J) := fun i => Ent.exI _ i
  repeat (first | refine GD ?_ | refine NW fun _ => ?_)
  refine WL.step rfl (OP.callRO rfl rfl hnext (Ent.at (up_jrn j p J) MM) rfl rfl ?_)
  repeat (first | refine GD ?_ | refine NW fun _ => ?_)
  refine WL.step rfl (OP.callRO rfl rfl hroom (Ent.at (up_jrn j p J) MM) rfl rfl ?_)
  by_cases hfull : J.held.length = J.ring
  · rw [if_pos hfull] at hdef
    rw [hfull, Int.sub_self]
    repeat (first | refine GD ?_ | refine NW fun _ => ?_)
    refine WL.step rfl (OP.call (pre := []) rfl rfl (wrap_ok jrnT J.next 6 (by decide)) PS rfl rfl ?_)
    intro v M hF
    obtain ⟨M', h1, h2⟩ := hF.isEr
    repeat (first | refine GD ?_ | refine NW fun _ => ?_)
    refine ret2 rfl rfl ⟨M' ++ [jrn j p J, dsk p D], ?_, ?_⟩
    · unfold AppJ
      rw [hdef]
      exact ⟨v, M', h1, rfl, rfl⟩
    · rw [List.append_assoc]
      exact (Imp.app h2 _).trans (Imp.appL II _)
  rw [if_neg hfull] at hdef
  have hne : ¬ (J.ring : Int) - J.held.length = 0 := by omega
  repeat (first | refine GD ?_ | refine NW fun _ => ?_)
  refine WC.open P1 (fun x => ?_)
  unfold jrnL
  dsimp only [List.cons_append, List.nil_append]
  by_cases hR : RightR (J.next, kind, block, data, num) ∧ (0 ≤ J.hd.gen ∧ J.hd.gen ≤ widest)
  rotate_left
  · rw [if_neg hR] at hdef
    refine RD 12 12 (_) ?_
    refine WP 0 ?_
    refine WP 1 ?_
    refine WP 2 ?_
    refine WP 3 ?_
    refine VV 4 ?_
    refine VV 5 ?_
    refine WH.only 6 rfl rfl (by kernel_rfl) rfl (OP.callRT rfl rfl henc (fun _ _ => trivial) rfl rfl (fun v E hE' => ?_))
    rw [if_neg hR] at hE'
    obtain ⟨e, rfl, hF⟩ := hE'
    obtain ⟨b, rfl, rfl⟩ := hF
    refine ⟨fun _ => II, ?_⟩
    refine WP 7 ?_
    refine WP 8 ?_
    refine WP 9 ?_
    refine WP 10 ?_
    refine WP 11 ?_
    refine DN ?_
    repeat (first | refine GD ?_ | refine NW fun _ => ?_)
    refine WL.imp Imp.chain1 ?_
    refine WL.step rfl (OP.call (pre := [chainR [(_, recW, J.next)] 1]) rfl rfl (wrapC_ok jrnT J.next [(_, recW, J.next)] 1 (fun h => nomatch h.1)) PS rfl rfl ?_)
    rintro v M ⟨ch, h1, rfl, rfl⟩
    repeat (first | refine GD ?_ | refine NW fun _ => ?_)
    refine ret2 rfl rfl ⟨[chainR ch 1] ++ [jrn j p J, dsk p D], ?_, ?_⟩
    · unfold AppJ
      rw [hdef]
      exact ⟨_, _, ⟨ch, h1, rfl, rfl⟩, rfl, rfl⟩
    · exact Imp.trans II ((jrnFold j p J x (N := [chainR ch 1, dsk p D, F])).trans II)
  rw [if_pos hR] at hdef
  have hsl := sectorM_len (bodyM_len (gen := J.hd.gen) hR.1)
  generalize hS : sectorM (bodyM J.hd.gen (J.next, kind, block, data, num)) = S at *
  refine RD 12 12 (_) ?_
  refine WP 0 ?_
  refine WP 1 ?_
  refine WP 2 ?_
  refine WP 3 ?_
  refine VV 4 ?_
  refine VV 5 ?_
  refine WH.only 6 rfl rfl (by kernel_rfl) rfl (OP.callRT rfl rfl henc (fun _ _ => trivial) rfl rfl (fun v E hE' => ?_))
  rw [if_pos hR] at hE'
  obtain ⟨v1, rfl, a6, cap6, rfl, rfl⟩ := hE'
  refine ⟨fun _ => II, ?_⟩
  refine WP 7 ?_
  refine WP 8 ?_
  refine WP 9 ?_
  refine WP 10 ?_
  refine WP 11 ?_
  refine DN ?_
  repeat (first | refine GD ?_ | refine NW fun _ => ?_)
  refine RD 9 10 (_) ?_
  refine WP 0 ?_
  refine WP 1 ?_
  refine WP 2 ?_
  refine VV 3 ?_
  refine WP 4 ?_
  refine WP 5 ?_
  refine VV 6 ?_
  refine WP 8 ?_
  refine WH.only 7 rfl rfl (by kernel_rfl) rfl (OP.callRO rfl rfl (hat) (hEJ (x := x) (by unfold jrnL; exact II)) rfl rfl ⟨fun _ => II, ?_⟩)
  refine WH.only 9 rfl rfl (by kernel_rfl) rfl (OP.call (pre := [dsk p D, ownS a6 S.length cap6 5 1 (S.map byteV)]) rfl rfl (hwr a6 cap6 (by omega) (by omega)) PS rfl rfl (fun v M hM => ?_))
  unfold WrPost at hM
  rw [if_pos ⟨by omega, hsl⟩, Int.toNat_natCast] at hM
  obtain ⟨rfl, rfl⟩ := hM
  refine ⟨(fun h => nomatch h), ?_⟩
  refine DN ?_
  repeat (first | refine GD ?_ | refine NW fun _ => ?_)
  refine RD 13 17 (_) ?_
  refine WP 0 ?_
  refine WP 1 ?_
  refine WP 2 ?_
  refine WP 3 ?_
  refine VV 4 ?_
  refine WP 5 ?_
  refine WP 6 ?_
  refine WP 7 ?_
  refine WP 8 ?_
  refine VV 9 ?_
  refine VV 10 ?_
  refine WH.only 11 rfl rfl (by kernel_rfl) rfl (OP.buildT rfl rfl rfl rfl ⟨fun _ => II, ?_⟩)
  refine WH.only 12 rfl rfl (by kernel_rfl) rfl (OP.sliceLit (c := heldC (J.hd.gen, J.next, kind, block, data, num)) rfl rfl rfl rfl rfl rfl rfl rfl (fun b2 => ⟨fun _ => II, ?_⟩))
  refine WH.only 13 rfl rfl (by kernel_rfl) rfl (OP.append rfl rfl rfl rfl rfl rfl rfl rfl rfl P1 (Ent.own MM) rfl (by omega) (by omega) rfl rfl (fun a' cap' => ⟨(fun h => nomatch h), ?_⟩))
  refine WP 14 ?_
  refine WP 15 ?_
  refine WH.only 16 rfl rfl (by kernel_rfl) rfl (OP.store rfl rfl rfl rfl rfl rfl rfl UP rfl ⟨(fun h => nomatch h), ?_⟩)
  refine DN ?_
  repeat (first | refine GD ?_ | refine NW fun _ => ?_)
  refine ret2 rfl rfl ⟨[jrn j p { J with held := J.held ++ [(J.hd.gen, J.next, kind, block, data, num)] }, dsk p (D.put (posM J.ring J.next) S)], ?_, ?_⟩
  · unfold AppJ
    rw [hdef]
    exact ⟨rfl, rfl⟩
  · refine Imp.trans ?_ (jrnFold j p { J with held := J.held ++ [(J.hd.gen, J.next, kind, block, data, num)] } (a', cap'))
    dsimp only
    rw [List.length_append, List.flatMap_append, List.flatMap_cons, List.flatMap_nil, List.append_nil]
    exact II
end Go.Proofs.YtanjfjiaheghcaaGreatDoor
/- Contracts of functions of the given program, and plain laws on what they compute: parts of the proofs of laws. -/

namespace Go.Proofs.YtanjfjiaheghcaaGreatDoor
open Go Go.GL

/-! a part of what is held is copied -/
set_option maxRecDepth 10000 in
theorem hclone_rt (a : Addr) (n c : Nat) (l : List Held) (hn : n = l.length) (hs : n < 1000000) : RT G 144 [.slice (some a) n c] (readS (some a) n 6 (l.flatMap heldC))
    (fun v E => ∃ a' cap', v = .slice a' l.length cap' ∧ E = [ownS a' l.length cap' 234 6 (l.flatMap heldC)]) := by
  refine RT.enter Tryz.func144 rfl (by decide) rfl Tryz.ntmps144 rfl (fun A hu hA => ?_)
  have hE : ∀ {L}, A ∈ L → Ent L (readS (some a) n 6 (l.flatMap heldC)) := fun m => Ent.mem m hu hA
  have h1 : ∀ l : List Held, allOne (l.flatMap heldC) = true := fun l => by
    induction l with
    | nil => rfl
    | cons x r ih => rw [List.flatMap_cons]; simpa [heldC, encR, allOne, one] using ih
  repeat (first | refine GO ?_ | refine NW fun _ => ?_)
  refine WL.step rfl (OP.lit0 (size := 6) rfl rfl rfl rfl rfl rfl (fun b => ?_))
  repeat (first | refine GO ?_ | refine NW fun _ => ?_)
  refine WL.step rfl (OP.append rfl rfl rfl rfl rfl rfl rfl rfl rfl P1 (hE MM) (h1 _) (by omega) (by omega) rfl rfl (fun a2' cap2 => ?_))
  rw [Nat.zero_add, List.nil_append]
  repeat (first | refine GO ?_ | refine NW fun _ => ?_)
  exact ret1 rfl ⟨[ownS a2' n cap2 234 6 (l.flatMap heldC)], ⟨a2', cap2, by rw [hn], by rw [hn]⟩, II⟩
def TrimJ (j p : Nat) (J : Jrn) (D : Dsk) (k : Int) (v : Value) (M : List Assn) : Prop := match trimM J D k with
  | .ok (J', D') => v = .nilIface ∧ M = [jrn j p J', dsk p D']
  | .error c => ∃ E, IsEr (some ([(jrnT, k)], c)) v E ∧ M = E ++ [jrn j p J, dsk p D]
set_option maxHeartbeats 8000000 in
set_option maxRecDepth 10000 in
theorem jtrim_ok (j p : Nat) (J : Jrn) (D : Dsk) (k : Int) (hJ : J.rng) (hD : D.ok) (hl : 2 + J.ring ≤ D.S.length) (hw : D.W.length < 10000) :
    Triple G 118 [.pointer (some ⟨j, 0, none⟩), .int .i64 k] [jrn j p J, dsk p D] (TrimJ j p J D k) := by
  refine Triple.enter Tryz.func118 rfl (by decide) rfl Tryz.ntmps118 rfl (fun F => ?_)
  obtain ⟨⟨r1, r2⟩, hlen, ⟨t1, t2⟩, ⟨f1, f2⟩, ⟨g1, g2⟩⟩ := hJ
  have hdef : trimM J D k = if k < 0 ∨ (J.held.length : Int) < k then .error 1
    else if k = 0 then .ok (J, D)
    else .ok ({ J with hd := { J.hd with turn := J.hd.turn + 1, first := J.hd.first + k, low := (J.held.getD (k.toNat - 1) (0, rec0)).1 }, held := J.held.drop k.toNat },
      saveM D.flush { J.hd with turn := J.hd.turn + 1, first := J.hd.first + k, low := (J.held.getD (k.toNat - 1) (0, rec0)).1 }) := rfl
  refine WC.open P1 (fun x => ?_)
  unfold jrnL
  dsimp only [List.cons_append, List.nil_append]
  by_cases h1 : k < 0
  · have hop : trimM J D k = .error 1 := by rw [hdef, if_pos (.inl h1)]
    repeat (first | refine GD ?_ | refine NW fun _ => ?_)
    refine WL.step rfl (OP.call (pre := []) rfl rfl (wrap_ok jrnT k 1 (by decide)) PS rfl rfl ?_)
    intro v M hF
    obtain ⟨M', h1, h2⟩ := hF.isEr
    repeat (first | refine GD ?_ | refine NW fun _ => ?_)
    refine ret1 rfl ⟨M' ++ [jrn j p J, dsk p D], ?_, ?_⟩
    · unfold TrimJ
      rw [hop]
      exact ⟨M', h1, rfl⟩
    · rw [List.append_assoc]
      refine (Imp.app h2 _).trans (Imp.appL ?_ _)
      exact Imp.trans II (jrnFold j p J x)
  by_cases h2 : (J.held.length : Int) < k
  · have hop : trimM J D k = .error 1 := by rw [hdef, if_pos (.inr h2)]
    repeat (first | refine GD ?_ | refine NW fun _ => ?_)
    refine WL.step rfl (OP.call (pre := []) rfl rfl (wrap_ok jrnT k 1 (by decide)) PS rfl rfl ?_)
    intro v M hF
    obtain ⟨M', h1, h2⟩ := hF.isEr
    repeat (first | refine GD ?_ | refine NW fun _ => ?_)
    refine ret1 rfl ⟨M' ++ [jrn j p J, dsk p D], ?_, ?_⟩
    · unfold TrimJ
      rw [hop]
      exact ⟨M', h1, rfl⟩
    · rw [List.append_assoc]
      refine (Imp.app h2 _).trans (Imp.appL ?_ _)
      exact Imp.trans II (jrnFold j p J x)
  rw [if_neg (by omega)] at hdef
  by_cases h3 : k = 0
  · subst h3
    rw [if_pos rfl] at hdef
    repeat (first | refine GD ?_ | refine NW fun _ => ?_)
    refine ret1 rfl ⟨[jrn j p J, dsk p D], ?_, Imp.trans II (jrnFold j p J x)⟩
    unfold TrimJ
    rw [hdef]
    exact ⟨rfl, rfl⟩
  rw [if_neg h3] at hdef
  obtain ⟨n, rfl⟩ : ∃ n : Nat, k = n := ⟨k.toNat, by omega⟩
  rw [Int.toNat_natCast] at hdef
  have hn1 : n - 1 < J.held.length := by omega
  rw [List.getD_eq_getElem?_getD, List.getElem?_eq_getElem hn1] at hdef
  dsimp only [Option.getD_some] at hdef
  refine WC.fact (Ent.some (Ent.own (a := x.1) (n := J.held.length) (cap := x.2) (T := 234) (size := 6) (cs := J.held.flatMap heldC) MM) (by omega)) ?_
  rintro ⟨b, off, hx⟩
  refine WC.fact (Ent.ownLe (a := x.1) (n := J.held.length) (cap := x.2) (T := 234) (size := 6) (cs := J.held.flatMap heldC) MM) (fun hcap => ?_)
  rw [hx]
  repeat (first | refine GD ?_ | refine NW fun _ => ?_)
  refine WL.step rfl (OP.call (pre := [dsk p D]) rfl rfl (dflush_ok p D hD (by omega)) PS rfl rfl ?_)
  rintro _ _ ⟨rfl, rfl⟩
  repeat (first | refine GD ?_ | refine NW fun _ => ?_)
  rw [show ((n : Int) - 1).toNat = n - 1 by omega]
  refine WL.step rfl (OP.load1 (v := .int .i64 (J.held[n - 1]).1) rfl rfl rfl rfl (Ent.elF heldC_len (Ent.own (T := 234) MM) hn1 rfl rfl) rfl rfl ?_)
  generalize (J.held[n - 1]).1 = lw at *
  repeat (first | refine GD ?_ | refine NW fun _ => ?_)
  obtain ⟨ca, hca⟩ : ∃ ca, cutA (some ⟨b, off, none⟩) x.2 n 6 = some ca := by unfold cutA; split <;> exact ⟨_, rfl⟩
  rw [hca]
  refine WL.step rfl (OP.callRT rfl rfl (hclone_rt ca (J.held.length - n) (x.2 - n) (J.held.drop n) (by simp) (by omega)) (fun h s => by
    have := readS_cut (Ent.own (a := some ⟨b, off, none⟩) (n := J.held.length) (cap := x.2) (T := 234) (size := 6) (cs := J.held.flatMap heldC) MM h s) (show n ≤ J.held.length by omega) hcap
    rw [hca, flat_drop heldC_len] at this
    exact this) rfl rfl ?_)
  rintro _ _ ⟨a3, cap3, rfl, rfl⟩
  repeat (first | refine GD ?_ | refine NW fun _ => ?_)
  refine WL.imp (M := [jrn j p ⟨J.ring, ⟨J.hd.turn, J.hd.first + n, J.hd.gen, lw⟩, J.held.drop n⟩, dsk p D.flush, F]) (Imp.trans II (jrnFold j p ⟨J.ring, ⟨J.hd.turn, J.hd.first + n, J.hd.gen, lw⟩, J.held.drop n⟩ (a3, cap3))) ?_
  refine WL.step rfl (OP.call (pre := [jrn j p ⟨J.ring, ⟨J.hd.turn, J.hd.first + n, J.hd.gen, lw⟩, J.held.drop n⟩, dsk p D.flush]) rfl rfl (jsave_ok j p ⟨J.ring, ⟨J.hd.turn, J.hd.first + n, J.hd.gen, lw⟩, J.held.drop n⟩ D.flush ⟨t1, t2⟩ (Dsk.settle_ok hD _) (by rw [show D.flush.S.length = D.S.length from Dsk.settle_len D _]; omega) (by show (0 : Nat) < 10000; decide)) PS rfl rfl ?_)
  rintro _ _ ⟨rfl, rfl⟩
  repeat (first | refine GD ?_ | refine NW fun _ => ?_)
  refine ret1 rfl ⟨_, ?_, Imp.refl _⟩
  unfold TrimJ
  rw [hdef]
  exact ⟨rfl, rfl⟩
end Go.Proofs.YtanjfjiaheghcaaGreatDoor
/- Contracts of functions of the given program, and plain laws on what they compute: parts of the proofs of laws. -/
/- Contracts of functions of the given program, and plain laws on what they compute: parts of the proofs of laws. -/
namespace Go.Proofs.YtanjfjiaheghcaaGreatDoor
open Go Go.GL

/-! a volume: the plain model -/
/-- what a block's sector tells: the record's number, its data -/
abbrev Plc := Int × ByteArray
def plc0 : Plc := (0, ⟨#[]⟩)
def plcB (x : Plc) (block : Int) : List UInt8 := numB (clampN x.1) ++ numB (clampN block) ++ textB x.2
def plcS (x : Plc) (block : Int) : List UInt8 := sectorM (plcB x block)
/-- a place that is read -/
def pl3 (s : PR) : Plc × PR := (((numR s).1, (textR 16 (numR (numR s).2).2).1), (textR 16 (numR (numR s).2).2).2)
def PlcOk (b : List UInt8) (block : Int) (x : Plc) (e : Int) : Prop := e = 0 ∧ 0 < x.1 ∧ plcS x block = b
instance (b : List UInt8) (block : Int) (x : Plc) (e : Int) : Decidable (PlcOk b block x e) := by unfold PlcOk; infer_instance
def plcOf (b : List UInt8) (block : Int) : Option Plc :=
  if b = zero64 then some plc0
  else if OpenOk b ∧ PlcOk b block (pl3 (b.take (b.length - 4), 0)).1 (pl3 (b.take (b.length - 4), 0)).2.2 then some (pl3 (b.take (b.length - 4), 0)).1 else none
/-- a volume: its journal, what is laid, its blocks -/
structure Vol where
  J : Jrn
  laid : List Plc
  blks : List Plc
def takeV (l : List Plc) (r : Rec) : List Plc :=
  if r.2.1 = 1 ∧ (l.getD r.2.2.1.toNat plc0).1 < r.1 then l.set r.2.2.1.toNat (r.1, r.2.2.2.1) else l
def takeAll (l : List Plc) (h : List Held) : List Plc := h.foldl (fun s x => takeV s x.2) l
/-- the places that a disk tells, from a block on -/
def plcsF (D : Dsk) (ring : Nat) : Nat → List Plc → Option (List Plc)
  | 0, l => some l
  | k + 1, l => match plcOf (D.cur (2 + ring + l.length)) l.length with
    | some x => plcsF D ring k (l ++ [x])
    | none => none
def plcsM (D : Dsk) (ring : Nat) : Option (List Plc) := plcsF D ring 8 []
end Go.Proofs.YtanjfjiaheghcaaGreatDoor
/- Contracts of functions of the given program, and plain laws on what they compute: parts of the proofs of laws. -/

namespace Go.Proofs.YtanjfjiaheghcaaGreatDoor
open Go Go.GL

/-! a volume's places -/
def plcC (x : Plc) : List Value := [.int .i64 x.1, .string x.2]
theorem plcB_len {x : Plc} {block : Int} (h : x.2.size ≤ 16) : (plcB x block).length ≤ 60 := by
  have h1 := numB_nine x.1
  have h2 := numB_nine block
  have h3 := numB_nine x.2.size
  rw [clamp_nat x.2.size (by have : widest = 1152921504606846975 := rfl; omega)] at h3
  unfold plcB textB
  simp only [List.length_append]
  have : x.2.data.toList.length = x.2.size := Array.length_toList
  omega
set_option maxHeartbeats 2000000 in
set_option maxRecDepth 10000 in
theorem psector_rt (x : Plc) (block : Int) (hx : x.2.size ≤ 16) : RT G 117 [.agg (plcC x).toArray, .int .i64 block] (fun _ => True) (BytesNew (plcS x block)) := by
  refine RT.enter Tryz.func117 rfl (by decide) rfl Tryz.ntmps117 rfl (fun A hu hA => ?_)
  have h1 := numB_nine x.1
  have h2 := numB_nine block
  have hb := plcB_len (block := block) hx
  rw [show plcC x = [.int .i64 x.1, .string x.2] from rfl]
  repeat (first | refine GO ?_ | refine NW fun _ => ?_)
  refine WL.step rfl (OP.call (pre := [ownS none 0 0 5 1 (([] : List UInt8).map byteV)]) rfl rfl (number_ok none 0 0 [] x.1 (by omega)) (Imp.nilS 5 1) rfl rfl ?_)
  rintro _ _ ⟨a1, cap1, rfl, rfl⟩
  repeat (first | refine GO ?_ | refine NW fun _ => ?_)
  refine WL.step rfl (OP.call (pre := [ownS a1 _ cap1 5 1 _]) rfl rfl (number_ok a1 _ cap1 _ block (by omega)) PS rfl rfl ?_)
  rintro _ _ ⟨a2, cap2, rfl, rfl⟩
  repeat (first | refine GO ?_ | refine NW fun _ => ?_)
  refine WL.step rfl (OP.call (pre := [ownS a2 _ cap2 5 1 _]) rfl rfl (text_ok a2 _ cap2 _ x.2 (by omega) (by omega)) PS rfl rfl ?_)
  rintro _ _ ⟨a3, cap3, rfl, rfl⟩
  repeat (first | refine GO ?_ | refine NW fun _ => ?_)
  have e1 : [] ++ numB (clampN x.1) ++ numB (clampN block) ++ textB x.2 = plcB x block := by unfold plcB; simp
  have e2 : 0 + (numB (clampN x.1)).length + (numB (clampN block)).length + (textB x.2).length = (plcB x block).length := by unfold plcB; simp only [List.length_append]; omega
  rw [e1, e2]
  refine WL.step rfl (OP.callRT rfl rfl (sector_ok a3 _ cap3 (plcB x block) rfl hb) (Ent.own (T := 5) MM) rfl rfl ?_)
  rintro _ _ ⟨v1, rfl, a6, cap6, rfl, rfl⟩
  repeat (first | refine GO ?_ | refine NW fun _ => ?_)
  exact ret1 rfl ⟨[_], ⟨a6, cap6, rfl, rfl⟩, II⟩
end Go.Proofs.YtanjfjiaheghcaaGreatDoor
/- Contracts of functions of the given program, and plain laws on what they compute: parts of the proofs of laws. -/

namespace Go.Proofs.YtanjfjiaheghcaaGreatDoor
open Go Go.GL

def PlcPost (l : List UInt8) (block : Int) (v : Value) : Prop := match plcOf l block with
  | some x => v = .tuple #[.agg (plcC x).toArray, .bool true]
  | none => ∃ x, v = .tuple #[.agg (plcC x).toArray, .bool false]
set_option maxHeartbeats 4000000 in
set_option maxRecDepth 10000 in
theorem placeOf_rt (a : Option Addr) (n c : Nat) (l : List UInt8) (block : Int) (hn : n = l.length) (hc : n ≤ c) (hs : n = 64) : RT G 124 [.slice a n c, .int .i64 block] (readS a n 1 (l.map byteV)) (fun v E => PlcPost l block v ∧ E = []) := by
  refine RT.enter Tryz.func124 rfl (by decide) rfl Tryz.ntmps124 rfl (fun A hu hA => ?_)
  have hE : ∀ {L}, A ∈ L → Ent L (readS a n 1 (l.map byteV)) := fun m => Ent.mem m hu hA
  repeat (first | refine GD ?_ | refine NW fun _ => ?_)
  refine WL.step rfl (OP.makeS (z := [.int .u8 0]) rfl rfl rfl rfl rfl rfl rfl rfl (by decide) (by decide) (by decide) rfl rfl (fun bz => ?_))
  have hz : repL [Value.int .u8 0] (Int.toNat 64) = zero64.map byteV := by rw [repL_bytes]; rfl
  rw [hz]
  refine WL.step rfl (OP.callRO rfl rfl (beq_ro a (some ⟨bz, 0, none⟩) n c _ _ l zero64) (Ent.and (hE MM) (Ent.own (T := 5) MM)) rfl rfl ?_)
  by_cases h0 : l = zero64
  · rw [decide_eq_true h0]
    have hdec : plcOf l block = some plc0 := by unfold plcOf; rw [if_pos h0]
    repeat (first | refine GD ?_ | refine NW fun _ => ?_)
    refine retc2 rfl rfl rfl rfl rfl (HasCut.ent (n := 2) HC).1 ⟨[], ⟨?_, rfl⟩, II⟩
    unfold PlcPost
    rw [hdec]
    rfl
  rw [decide_eq_false h0]
  have hdef : plcOf l block = if OpenOk l ∧ PlcOk l block (pl3 (l.take (l.length - 4), 0)).1 (pl3 (l.take (l.length - 4), 0)).2.2 then some (pl3 (l.take (l.length - 4), 0)).1 else none := by unfold plcOf; rw [if_neg h0]
  repeat (first | refine GD ?_ | refine NW fun _ => ?_)
  refine WL.step rfl (OP.callRT rfl rfl (open_ok a n c l hn hc (by omega)) (hE MM) rfl rfl ?_)
  rintro v E hO
  unfold OpenPost at hO
  by_cases ho : OpenOk l
  rotate_left
  · rw [if_neg ho] at hO
    obtain ⟨rfl, rfl⟩ := hO
    have hdec : plcOf l block = none := by rw [hdef, if_neg (fun h => ho h.1)]
    repeat (first | refine GD ?_ | refine NW fun _ => ?_)
    refine retc2 rfl rfl rfl rfl rfl (HasCut.ent (n := 2) HC).1 ⟨[], ⟨?_, rfl⟩, II⟩
    unfold PlcPost
    rw [hdec]
    exact ⟨plc0, rfl⟩
  rw [if_pos ho] at hO
  obtain ⟨v1, rfl, a2, cap2, rfl, rfl⟩ := hO
  have hdR : plcOf l block = if PlcOk l block (pl3 (l.take (l.length - 4), 0)).1 (pl3 (l.take (l.length - 4), 0)).2.2 then some (pl3 (l.take (l.length - 4), 0)).1 else none := by
    rw [hdef]
    by_cases hk : PlcOk l block (pl3 (l.take (l.length - 4), 0)).1 (pl3 (l.take (l.length - 4), 0)).2.2
    · rw [if_pos ⟨ho, hk⟩, if_pos hk]
    · rw [if_neg (fun h => hk h.2), if_neg hk]
  clear hdef
  have hl4 : (l.take (l.length - 4)).length < 1000000 := by rw [List.length_take]; omega
  generalize l.take (l.length - 4) = l4 at *
  refine WL.fact (Ent.ownLe (a := a2) (n := l4.length) (cap := cap2) (T := 5) (size := 1) (cs := l4.map byteV) MM) (fun hc2 => ?_)
  have hby : Bytes (ownS a2 l4.length cap2 5 1 (l4.map byteV)) l4 (.slice a2 l4.length cap2) := ⟨a2, l4.length, cap2, rfl, rfl, hc2, fun h x => read_of_own x⟩
  generalize hO : ownS a2 l4.length cap2 5 1 (l4.map byteV) = O at *
  have huO : Up O := by rw [← hO]; exact up_ownS _ _ _ _ _ _
  repeat (first | refine GD ?_ | refine NW fun _ => ?_)
  refine WL.step rfl (OP.callRT rfl rfl (read0_ok a2 l4.length cap2) (fun _ _ => trivial) rfl rfl ?_)
  rintro v E ⟨r, rfl, rfl⟩
  unfold pl3 at hdR
  repeat (first | refine GD ?_ | refine NW fun _ => ?_)
  refine WL.step rfl (OP.call (pre := [blk r [.slice a2 l4.length cap2, .int .i64 (l4, 0).2] 240, O]) rfl rfl (numR_ok r _ (l4, 0) O huO hby (by first | exact hl4 | assumption)) PS rfl rfl ?_)
  rintro _ _ ⟨rfl, vy1, hy1, rfl⟩
  have by1 := numR_bd (l4, 0)
  have hly1 : (numR (l4, 0)).2.1.length < 1000000 := by
    refine Nat.lt_of_le_of_lt by1.1 ?_
    first | exact hl4 | assumption
  generalize numR (l4, 0) = y1 at *
  obtain ⟨xy1, sy1⟩ := y1
  dsimp only at hy1 by1 hly1 hdR ⊢
  repeat (first | refine GD ?_ | refine NW fun _ => ?_)
  refine WL.step rfl (OP.call (pre := [blk r [vy1, .int .i64 sy1.2] 240, O]) rfl rfl (numR_ok r _ sy1 O huO hy1 (by first | exact hl4 | assumption)) PS rfl rfl ?_)
  rintro _ _ ⟨rfl, vy2, hy2, rfl⟩
  have by2 := numR_bd sy1
  have hly2 : (numR sy1).2.1.length < 1000000 := by
    refine Nat.lt_of_le_of_lt by2.1 ?_
    first | exact hl4 | assumption
  generalize numR sy1 = y2 at *
  obtain ⟨xy2, sy2⟩ := y2
  dsimp only at hy2 by2 hly2 hdR ⊢
  repeat (first | refine GD ?_ | refine NW fun _ => ?_)
  refine WL.step rfl (OP.call (pre := [blk r [vy2, .int .i64 sy2.2] 240, O]) rfl rfl (textR_ok r _ sy2 O huO hy2 hly2 16) PS rfl rfl ?_)
  rintro _ _ ⟨rfl, vy3, hy3, rfl⟩
  have hts := textR_size 16 sy2 (by decide)
  generalize textR 16 sy2 = y3 at *
  obtain ⟨d3, l3, e3⟩ := y3
  dsimp only at hy3 hts hdR ⊢
  repeat (first | refine GD ?_ | refine NW fun _ => ?_)
  refine WL.step rfl (OP.callRO rfl rfl (err_ro r vy3 e3) (Ent.whole (T := 240) MM) rfl rfl ?_)
  by_cases he : e3 = 0
  rotate_left
  · have hdec : plcOf l block = none := by rw [hdR, if_neg (fun h => he h.1)]
    repeat (first | refine GD ?_ | refine NW fun _ => ?_)
    refine retc2 rfl rfl rfl rfl rfl (HasCut.ent (n := 2) HC).1 ⟨[], ⟨?_, rfl⟩, II⟩
    unfold PlcPost
    rw [hdec]
    exact ⟨(xy1, d3), rfl⟩
  by_cases h1 : 0 < xy1
  rotate_left
  · have hdec : plcOf l block = none := by rw [hdR, if_neg (fun h => h1 h.2.1)]
    repeat (first | refine GD ?_ | refine NW fun _ => ?_)
    refine retc2 rfl rfl rfl rfl rfl (HasCut.ent (n := 2) HC).1 ⟨[], ⟨?_, rfl⟩, II⟩
    unfold PlcPost
    rw [hdec]
    exact ⟨(xy1, d3), rfl⟩
  have hsec := psector_rt (xy1, d3) block (by dsimp only; omega)
  repeat (first | refine GD ?_ | refine NW fun _ => ?_)
  refine WL.guardT rfl rfl rfl rfl (OP.callRT rfl rfl hsec (fun _ _ => trivial) rfl rfl ?_)
  rintro _ _ ⟨a6, cap6, rfl, rfl⟩
  repeat (first | refine GD ?_ | refine NW fun _ => ?_)
  refine WL.guardT rfl rfl rfl rfl (OP.callRO rfl rfl (beq_ro a6 a _ cap6 n c (plcS (xy1, d3) block) l) (Ent.and (Ent.own (T := 5) MM) (hE MM)) rfl rfl ?_)
  by_cases h4 : plcS (xy1, d3) block = l
  · have hdec : plcOf l block = some (xy1, d3) := by rw [hdR, if_pos ⟨he, h1, h4⟩]
    rw [decide_eq_true h4]
    repeat (first | refine GD ?_ | refine NW fun _ => ?_)
    refine retc2 rfl rfl rfl rfl rfl (HasCut.ent (n := 2) HC).1 ⟨[], ⟨?_, rfl⟩, II⟩
    unfold PlcPost
    rw [hdec]
    rfl
  · have hdec : plcOf l block = none := by rw [hdR, if_neg (fun h => h4 h.2.2)]
    rw [decide_eq_false h4]
    repeat (first | refine GD ?_ | refine NW fun _ => ?_)
    refine retc2 rfl rfl rfl rfl rfl (HasCut.ent (n := 2) HC).1 ⟨[], ⟨?_, rfl⟩, II⟩
    unfold PlcPost
    rw [hdec]
    exact ⟨(xy1, d3), rfl⟩
end Go.Proofs.YtanjfjiaheghcaaGreatDoor
/- Contracts of functions of the given program, and plain laws on what they compute: parts of the proofs of laws. -/
namespace Go.Proofs.YtanjfjiaheghcaaGreatDoor
open Go Go.GL

/-! a volume that is opened: the plain model -/
def volTx : ByteArray := ⟨#[118, 111, 108, 117, 109, 101]⟩
def jrnTx : ByteArray := ⟨#[106, 111, 117, 114, 110, 97, 108]⟩
def openV (D : Dsk) (ring : Int) : Except (List (ByteArray × Int) × Int) (Vol × Dsk) :=
  if ring < 1 ∨ 512 < ring ∨ (D.S.length : Int) < 10 + ring then .error ([(volTx, ring)], 1)
  else match openM D ring with
    | .error c => .error ([(volTx, ring), (jrnTx, ring)], c)
    | .ok (J, D') => match plcsM D' ring.toNat with
      | none => .error ([(volTx, ring)], 4)
      | some l => .ok (⟨J, l, takeAll l J.held⟩, D')
theorem takeV_len (l : List Plc) (r : Rec) : (takeV l r).length = l.length := by unfold takeV; split <;> simp
theorem takeAll_len (h : List Held) : ∀ (l : List Plc), (takeAll l h).length = l.length := by
  induction h with
  | nil => intro l; rfl
  | cons x r ih => intro l; show (takeAll (takeV l x.2) r).length = _; rw [ih, takeV_len]
theorem takeAll_snoc (l : List Plc) (h : List Held) (x : Held) : takeAll l (h ++ [x]) = takeV (takeAll l h) x.2 := by
  unfold takeAll; rw [List.foldl_append]; rfl
theorem scanF_right (D : Dsk) (ring : Nat) (h : Hd) : ∀ (k : Nat) (l : List Held) (low : Int), (∀ x ∈ l, RightR x.2) → ∀ x ∈ scanF D ring h k l low, RightR x.2
  | 0, _, _, hl => hl
  | k + 1, l, low, hl => by
    rw [scanF]
    split
    · rename_i x hx
      refine scanF_right D ring h k _ _ (fun y hy => ?_)
      rcases List.mem_append.1 hy with hy | hy
      · exact hl y hy
      · rw [List.mem_singleton.1 hy]
        exact (decR_ok (g := x.1) (r := x.2) (fits_some hx).1).1
    · exact hl
theorem scanM_right (D : Dsk) (ring : Nat) (h : Hd) : ∀ x ∈ scanM D ring h, RightR x.2 := scanF_right D ring h _ _ _ (fun _ hx => by cases hx)
theorem right_block {r : Rec} (h : RightR r) : r.2.1 = 1 → 0 ≤ r.2.2.1 ∧ r.2.2.1 < 8 := fun e => by
  rcases h.2 with h | h
  · omega
  · exact h.2.1
end Go.Proofs.YtanjfjiaheghcaaGreatDoor
/- Contracts of functions of the given program, and plain laws on what they compute: parts of the proofs of laws. -/
namespace Go.Proofs.YtanjfjiaheghcaaGreatDoor
open Go Go.GL

/-! a volume's calls: the plain model -/
/-- what a volume's parts are within -/
structure Vol.rng (V : Vol) : Prop where
  J : V.J.rng
  l8 : V.laid.length = 8
  b8 : V.blks.length = 8
  s : ∀ x ∈ V.blks, x.2.size ≤ 16
/-- a record is put into the journal -/
def appV (V : Vol) (D : Dsk) (at_ : Int) (r : Rec) : Except (List (ByteArray × Int) × Int) (Vol × Dsk) := match appendM V.J D r with
  | .ok (J', D') => .ok (⟨J', V.laid, takeV V.blks (setSeq r V.J.next)⟩, D')
  | .error c => .error ((volTx, at_) :: appEr V.J c, c)
def writeV (V : Vol) (D : Dsk) (block : Int) (data : ByteArray) : Except (List (ByteArray × Int) × Int) (Vol × Dsk) :=
  if ¬ (0 ≤ block ∧ block < 8) then .error ([(volTx, block)], 5)
  else if 16 < data.size then .error ([(volTx, block)], 1)
  else appV V D block (0, 1, block, data, 0)
def markV (V : Vol) (D : Dsk) (number : Int) : Except (List (ByteArray × Int) × Int) (Vol × Dsk) := appV V D number (0, 2, 0, ⟨#[]⟩, number)
def readV (V : Vol) (block : Int) : Except (List (ByteArray × Int) × Int) ByteArray :=
  if ¬ (0 ≤ block ∧ block < 8) then .error ([(volTx, block)], 5) else .ok (V.blks.getD block.toNat plc0).2
def uptoV (h : List Held) (number : Int) : Nat := (h.filter (fun x => decide (x.2.1 ≤ number))).length
/-- the blocks that are newer than what is laid are laid -/
def layF (ring : Nat) (laid blks : List Plc) : Nat → Dsk → Dsk
  | 0, D => D
  | k + 1, D => if (laid.getD k plc0).1 < (blks.getD k plc0).1 then (layF ring laid blks k D).put (2 + ring + k) (plcS (blks.getD k plc0) k) else layF ring laid blks k D
def layV (V : Vol) (D : Dsk) : Dsk := (layF V.J.ring V.laid V.blks 8 D.flush).flush
def ckV (V : Vol) (D : Dsk) (upto : Int) : Except (List (ByteArray × Int) × Int) (Vol × Dsk) :=
  if upto < 0 ∨ V.J.next ≤ upto then .error ([(volTx, upto)], 5)
  else match trimM V.J (layV V D) (uptoV V.J.held upto) with
    | .ok (J', D') => .ok (⟨J', V.blks, V.blks⟩, D')
    | .error c => .error ([(jrnTx, (uptoV V.J.held upto : Nat))], c)
theorem uptoV_le (h : List Held) (n : Int) : uptoV h n ≤ h.length := List.length_filter_le _ _
theorem plcS_len {x : Plc} {block : Int} (h : x.2.size ≤ 16) : (plcS x block).length = 64 := sectorM_len (plcB_len h)
theorem layF_len (ring : Nat) (laid blks : List Plc) : ∀ (k : Nat) (D : Dsk), (layF ring laid blks k D).S.length = D.S.length
  | 0, _ => rfl
  | k + 1, D => by
    rw [layF]
    split
    · exact layF_len ring laid blks k D
    · exact layF_len ring laid blks k D
theorem layF_w (ring : Nat) (laid blks : List Plc) : ∀ (k : Nat) (D : Dsk), (layF ring laid blks k D).W.length ≤ D.W.length + k
  | 0, _ => Nat.le_refl _
  | k + 1, D => by
    have h := layF_w ring laid blks k D
    rw [layF]
    split
    · show ((layF ring laid blks k D).W ++ [_]).length ≤ _
      simp
      omega
    · omega
theorem layF_ok (ring : Nat) (laid blks : List Plc) (h8 : blks.length = 8) (hs : ∀ x ∈ blks, x.2.size ≤ 16) {D : Dsk} (hD : D.ok) (hl : 10 + ring ≤ D.S.length) : ∀ (k : Nat), k ≤ 8 → (layF ring laid blks k D).ok
  | 0, _ => hD
  | k + 1, hk => by
    have h := layF_ok ring laid blks h8 hs hD hl k (by omega)
    rw [layF]
    split
    · refine Dsk.put_ok h (by rw [layF_len]; omega) ?_
      rw [List.getD_eq_getElem?_getD, List.getElem?_eq_getElem (show k < blks.length by omega), Option.getD_some]
      exact plcS_len (hs _ (List.getElem_mem _))
    · exact h
end Go.Proofs.YtanjfjiaheghcaaGreatDoor
/- Contracts of functions of the given program, and plain laws on what they compute: parts of the proofs of laws. -/
namespace Go.Proofs.YtanjfjiaheghcaaGreatDoor
open Go Go.GL

/-! a volume: the plain law -/
theorem pl3_pad {x : Plc} {b : Int} (h1 : 0 ≤ x.1 ∧ x.1 ≤ widest) (hb : 0 ≤ b ∧ b ≤ widest) (hs : x.2.size ≤ 16) : pl3 (padM (plcB x b), 0) = (x, (List.replicate (60 - (plcB x b).length) 0, 0)) := by
  have e : padM (plcB x b) = numB (clampN x.1) ++ (numB (clampN b) ++ (textB x.2 ++ List.replicate (60 - (plcB x b).length) 0)) := by
    unfold padM
    generalize List.replicate (60 - (plcB x b).length) (0 : UInt8) = z
    unfold plcB
    simp only [List.append_assoc]
  unfold pl3
  rw [e, numR_numB h1]
  dsimp only
  rw [numR_numB hb]
  dsimp only
  rw [textR_textB hs]
theorem plcS_ne {x : Plc} {b : Int} (h1 : 0 < x.1 ∧ x.1 ≤ widest) (hb : 0 ≤ b ∧ b ≤ widest) (hs : x.2.size ≤ 16) : plcS x b ≠ zero64 := by
  intro h
  have h2 := (openOk_sector (plcB_len (block := b) hs)).2
  rw [show sectorM (plcB x b) = plcS x b from rfl, h] at h2
  have h3 := pl3_pad (b := b) ⟨by omega, h1.2⟩ hb hs
  rw [← h2] at h3
  have h4 : (pl3 (zero64.take (zero64.length - 4), 0)).1.1 = 0 := by decide
  rw [h3] at h4
  dsimp only at h4
  omega
theorem plcOf_plcS {x : Plc} {b : Int} (h1 : 0 < x.1 ∧ x.1 ≤ widest) (hb : 0 ≤ b ∧ b ≤ widest) (hs : x.2.size ≤ 16) : plcOf (plcS x b) b = some x := by
  obtain ⟨o1, o2⟩ := openOk_sector (plcB_len (block := b) hs)
  have e : pl3 ((plcS x b).take ((plcS x b).length - 4), 0) = (x, (List.replicate (60 - (plcB x b).length) 0, 0)) := by
    unfold plcS; rw [o2]; exact pl3_pad ⟨by omega, h1.2⟩ hb hs
  unfold plcOf
  rw [if_neg (plcS_ne h1 hb hs), e]
  dsimp only
  rw [if_pos ⟨o1, rfl, h1.1, rfl⟩]
theorem plcOf_zero (b : Int) : plcOf zero64 b = some plc0 := by unfold plcOf; rw [if_pos rfl]
theorem getD_lt {l : List Plc} {b : Nat} (h : b < l.length) : l.getD b plc0 = l[b] := by rw [List.getD_eq_getElem?_getD, List.getElem?_eq_getElem h]; rfl
/-- the places that a disk tells -/
theorem plcsM_of {D : Dsk} {ring : Nat} {l : List Plc} (h8 : l.length = 8) (h : ∀ b (hb : b < l.length), plcOf (D.cur (2 + ring + b)) b = some l[b]) : plcsM D ring = some l := by
  have key : ∀ k, k ≤ 8 → plcsF D ring k (l.take (8 - k)) = some l := by
    intro k
    induction k with
    | zero => intro _; rw [plcsF, List.take_of_length_le (by omega)]
    | succ k ih =>
      intro hk
      have hl : (l.take (8 - (k + 1))).length = 8 - (k + 1) := by rw [List.length_take]; omega
      rw [plcsF, hl, h _ (by omega)]
      dsimp only
      have := ih (by omega)
      rw [show 8 - k = (8 - (k + 1)) + 1 by omega, List.take_succ_eq_append_getElem (by omega)] at this
      exact this
  have := key 8 (Nat.le_refl _)
  exact this
/-- what is taken -/
theorem takeV_get (l : List Plc) (r : Rec) (b : Nat) : (takeV l r).getD b plc0 = if r.2.1 = 1 ∧ (l.getD r.2.2.1.toNat plc0).1 < r.1 ∧ r.2.2.1.toNat = b ∧ b < l.length then (r.1, r.2.2.2.1) else l.getD b plc0 := by
  unfold takeV
  by_cases h : r.2.1 = 1 ∧ (l.getD r.2.2.1.toNat plc0).1 < r.1
  · rw [if_pos h]
    by_cases hb : r.2.2.1.toNat = b
    · subst hb
      by_cases hl : r.2.2.1.toNat < l.length
      · rw [if_pos ⟨h.1, h.2, rfl, hl⟩, List.getD_eq_getElem?_getD, List.getElem?_set_self hl]; rfl
      · rw [if_neg (fun x => hl x.2.2.2), List.set_eq_of_length_le (by omega)]
    · rw [if_neg (fun x => hb x.2.2.1), List.getD_eq_getElem?_getD, List.getElem?_set_ne hb, ← List.getD_eq_getElem?_getD]
  · rw [if_neg h, if_neg (fun x => h ⟨x.1, x.2.1⟩)]
theorem takeV_up (l : List Plc) (r : Rec) (b : Nat) : (l.getD b plc0).1 ≤ ((takeV l r).getD b plc0).1 := by
  rw [takeV_get]
  split
  · rename_i h
    obtain ⟨_, h2, h3, _⟩ := h
    rw [h3] at h2
    exact Int.le_of_lt h2
  · exact Int.le_refl _
theorem takeAll_up (h : List Held) : ∀ (l : List Plc) (b : Nat), (l.getD b plc0).1 ≤ ((takeAll l h).getD b plc0).1 := by
  induction h with
  | nil => intro l b; exact Int.le_refl _
  | cons x r ih => intro l b; exact Int.le_trans (takeV_up l x.2 b) (ih (takeV l x.2) b)
theorem takeAll_same (h : List Held) : ∀ (l : List Plc) (b : Nat), (takeAll l h).getD b plc0 = l.getD b plc0 ∨ (l.getD b plc0).1 < ((takeAll l h).getD b plc0).1 := by
  induction h with
  | nil => intro l b; exact .inl rfl
  | cons x r ih =>
    intro l b
    have h1 := ih (takeV l x.2) b
    have h2 : (takeV l x.2).getD b plc0 = l.getD b plc0 ∨ (l.getD b plc0).1 < ((takeV l x.2).getD b plc0).1 := by
      rw [takeV_get]
      split
      · rename_i hc
        obtain ⟨_, c2, c3, _⟩ := hc
        rw [c3] at c2
        exact .inr c2
      · exact .inl rfl
    have h3 : takeAll l (x :: r) = takeAll (takeV l x.2) r := rfl
    rw [h3]
    rcases h1 with h1 | h1
    · rw [h1]; exact h2
    · rcases h2 with h2 | h2
      · rw [h2] at h1; exact .inr h1
      · exact .inr (Int.lt_trans h2 h1)
theorem takeAll_ge (h : List Held) : ∀ (l : List Plc) (x : Held), x ∈ h → x.2.2.1 = 1 → x.2.2.2.1.toNat < l.length → x.2.1 ≤ ((takeAll l h).getD x.2.2.2.1.toNat plc0).1 := by
  induction h with
  | nil => intro l x hx; cases hx
  | cons y r ih =>
    intro l x hx h1 hb
    rcases List.mem_cons.1 hx with rfl | hx
    · refine Int.le_trans ?_ (takeAll_up r (takeV l x.2) _)
      rw [takeV_get]
      split
      · exact Int.le_refl _
      · rename_i h
        have : ¬ (l.getD x.2.2.2.1.toNat plc0).1 < x.2.1 := fun h2 => h ⟨h1, h2, rfl, hb⟩
        omega
    · exact ih (takeV l y.2) x hx h1 (by rw [takeV_len]; exact hb)
theorem takeV_id {l : List Plc} {r : Rec} (h : r.2.1 = 1 → r.1 ≤ (l.getD r.2.2.1.toNat plc0).1) : takeV l r = l := by
  unfold takeV
  rw [if_neg]
  rintro ⟨h1, h2⟩
  have := h h1
  omega
theorem takeAll_id (h : List Held) (l : List Plc) (hh : ∀ x ∈ h, x.2.2.1 = 1 → x.2.1 ≤ (l.getD x.2.2.2.1.toNat plc0).1) : takeAll l h = l := by
  induction h with
  | nil => rfl
  | cons y r ih =>
    show takeAll (takeV l y.2) r = l
    rw [takeV_id (hh y List.mem_cons_self)]
    exact ih (fun x hx => hh x (List.mem_cons_of_mem _ hx))
/-- what holds of each that is taken -/
theorem takeAll_all {P : Plc → Prop} (h : List Held) : ∀ (l : List Plc), (∀ x ∈ l, P x) → (∀ x ∈ h, x.2.2.1 = 1 → P (x.2.1, x.2.2.2.2.1)) → ∀ x ∈ takeAll l h, P x := by
  induction h with
  | nil => intro l hl _; exact hl
  | cons y r ih =>
    intro l hl hh
    refine ih (takeV l y.2) ?_ (fun x hx => hh x (List.mem_cons_of_mem _ hx))
    unfold takeV
    split
    · rename_i hc
      intro x hx
      rcases List.mem_or_eq_of_mem_set hx with hx | hx
      · exact hl x hx
      · rw [hx]; exact hh y List.mem_cons_self hc.1
    · exact hl
/-- what is laid -/
theorem layF_lo {ring : Nat} {laid blks : List Plc} {D : Dsk} {p : Nat} (hp : p < 2 + ring) : ∀ k, (layF ring laid blks k D).cur p = D.cur p
  | 0 => rfl
  | k + 1 => by
    rw [layF]
    split
    · show curF p _ (_ ++ [_]) = _
      rw [curF_snoc, if_neg (by dsimp only; omega)]
      exact layF_lo hp k
    · exact layF_lo hp k
theorem layF_hi {ring : Nat} {laid blks : List Plc} {D : Dsk} (b : Nat) : ∀ k, (layF ring laid blks k D).cur (2 + ring + b) = if b < k ∧ (laid.getD b plc0).1 < (blks.getD b plc0).1 then plcS (blks.getD b plc0) b else D.cur (2 + ring + b)
  | 0 => by rw [if_neg (by omega)]; rfl
  | k + 1 => by
    have ih := layF_hi (laid := laid) (blks := blks) (ring := ring) (D := D) b k
    rw [layF]
    by_cases hc : (laid.getD k plc0).1 < (blks.getD k plc0).1
    · rw [if_pos hc]
      show curF (2 + ring + b) _ (_ ++ [_]) = _
      rw [curF_snoc]
      dsimp only
      by_cases hb : k = b
      · subst hb
        rw [if_pos rfl, if_pos ⟨by omega, hc⟩]
      · rw [if_neg (by omega)]
        refine Eq.trans ih ?_
        by_cases h2 : b < k ∧ (laid.getD b plc0).1 < (blks.getD b plc0).1
        · rw [if_pos h2, if_pos ⟨by omega, h2.2⟩]
        · rw [if_neg h2, if_neg (fun h => h2 ⟨by omega, h.2⟩)]
    · rw [if_neg hc]
      refine ih.trans ?_
      by_cases h2 : b < k ∧ (laid.getD b plc0).1 < (blks.getD b plc0).1
      · rw [if_pos h2, if_pos ⟨by omega, h2.2⟩]
      · rw [if_neg h2, if_neg (fun h => h2 ⟨by rcases Nat.lt_or_ge b k with h3 | h3; exact h3; exact absurd (by rw [show b = k by omega] at h; exact h.2) hc, h.2⟩)]
end Go.Proofs.YtanjfjiaheghcaaGreatDoor
/- Contracts of functions of the given program, and plain laws on what they compute: parts of the proofs of laws. -/
namespace Go.Proofs.YtanjfjiaheghcaaGreatDoor
open Go Go.GL

theorem JInv.rng {J : Jrn} {D : Dsk} {f : Nat} {B : Int} (I : JInv J D f B) (hB : B + 2 ≤ widest) : J.rng := by
  have h1 := I.ring
  have h2 := I.len
  have h3 := I.hdr
  have h4 := I.bound
  have hw : widest = 1152921504606846975 := rfl
  exact ⟨⟨h1.1, h1.2.1⟩, h2, by omega, by omega, by omega⟩
theorem JInv.few {J : Jrn} {D : Dsk} {f : Nat} {B : Int} (I : JInv J D f B) : D.W.length < 10000 := by
  have h1 := I.ring
  have h2 := I.len
  have h3 := I.wlen
  omega
theorem JInv.mono {J : Jrn} {D : Dsk} {f : Nat} {B B' : Int} (I : JInv J D f B) (h : B ≤ B') : JInv J D f B' := { I with bound := Int.le_trans I.bound h }
end Go.Proofs.YtanjfjiaheghcaaGreatDoor
