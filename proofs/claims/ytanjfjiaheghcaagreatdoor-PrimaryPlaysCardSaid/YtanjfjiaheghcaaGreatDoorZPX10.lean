/- Contracts of functions of the given program, and plain laws: parts of the proofs of laws. -/
import Derived.Test.YtanjfjiaheghcaaGreatDoorZPX3
import Derived.Test.YtanjfjiaheghcaaGreatDoorZPX9
import Derived.Test.YtanjfjiaheghcaaGreatDoorZPX5
import Derived.Test.YtanjfjiaheghcaaGreatDoorZPX6
/- Contracts of functions of the given program, and plain laws on what they compute: parts of the proofs of laws. -/

namespace Go.Proofs.YtanjfjiaheghcaaGreatDoor
open Go Go.GL

/-! a primary: Freeze, Mark, Ack -/
theorem psectors_ro (r : Int) (h : -9000000000000000000 ≤ r ∧ r ≤ 9000000000000000000) : RO G 7 [.int .i64 r] (fun _ => True) (.int .i64 (r + 11)) := by
  refine RO.enter Tryz.func7 rfl (by decide) rfl Tryz.ntmps7 rfl (fun A hu hA => ?_) (fun _ _ _ h => h)
  repeat (first | refine GO ?_ | refine NW fun _ => ?_)
  refine WL.step rfl (OP.callRO rfl rfl (vsectors_ro r h) (fun _ _ => trivial) rfl rfl ?_)
  have e : 2 + r + 8 + 1 = r + 11 := by omega
  repeat (first | refine GO ?_ | refine NW fun _ => ?_)
  rw [e]
  exact ret1 rfl ⟨rfl, MM⟩
set_option maxRecDepth 10000 in
theorem pwrong1_ok (at_ c : Int) (h : c ≠ 0) : Triple G 43 [.int .i64 at_, .iface 99 (.int .i64 c)] [] (IsEr (some ([(primT, at_)], c))) := by
  refine Triple.enter Tryz.func43 rfl (by decide) rfl Tryz.ntmps43 rfl (fun F => ?_)
  repeat (first | refine GO ?_ | refine NW fun _ => ?_)
  refine WL.step rfl (OP.call (pre := []) rfl rfl (wrap_ok primT at_ c h) PS rfl rfl ?_)
  intro v M hM
  obtain ⟨M', h1, h2⟩ := hM.isEr
  repeat (first | refine GO ?_ | refine NW fun _ => ?_)
  exact ret1 rfl ⟨M', h1, Imp.app h2 _⟩
def ErPost (p q : Nat) (R : Er × Pri) (x : Value) (M : List Assn) : Prop := ∃ E, IsEr R.1 x E ∧ M = E ++ [priA p q R.2, dsk q R.2.D]
set_option maxHeartbeats 8000000 in
set_option maxRecDepth 10000 in
theorem pfreeze_ok (p q : Nat) (P : Pri) (B : Int) (I : PInv P B) (round : Int) : Triple G 18 [.pointer (some ⟨p, 0, none⟩), .int .i64 round] [priA p q P, dsk q P.D] (ErPost p q (freezeP P round)) := by
  refine Triple.enter Tryz.func18 rfl (by decide) rfl Tryz.ntmps18 rfl (fun F => ?_)
  refine WC.open (M := [dsk q P.D, F]) (Ls := priL p q P) II (fun x => ?_)
  obtain ⟨v, g, s⟩ := x
  have hw := widest_eq
  have hdef : freezeP P round = if widest < round then (some ([(primT, round)], 1), P)
    else match freezeG P.G round 6 with
    | .error c => (some ([(primT, round), (gateT, round)], c), P)
    | .ok g => (none, if P.floor < round then { P with G := g, floor := round, D := (P.D.put (P.V.J.ring + 10) (floorS round)).flush } else { P with G := g }) := rfl
  have hfr := I.fr
  have hr := I.V.j.ring
  have hlen := I.len
  have hdn := pdown_ro p q P.V.J.ring v (.pointer (some ⟨g, 0, none⟩)) (.pointer (some ⟨s, 0, none⟩)) P.marked P.floor P.acked
  have hgf := gfreeze_ok g P.G round 6
  unfold FreezeG at hgf
  have hfold := fun (N : List Assn) => priFold p q P v g s (N := N)
  unfold priL
  dsimp only [List.cons_append, List.nil_append]
  unfold pndC at *
  repeat (first | refine GD ?_ | refine NW fun _ => ?_)
  refine WL.step rfl (OP.callRO rfl rfl hdn (Ent.at (up_blk _ _ _) MM) rfl rfl ?_)
  by_cases h1 : 1152921504606846975 < round
  · rw [if_pos (by omega)] at hdef
    repeat (first | refine GD ?_ | refine NW fun _ => ?_)
    refine WL.step rfl (OP.call (pre := []) rfl rfl (pwrong1_ok round 1 (by decide)) PS rfl rfl ?_)
    intro w M hM
    repeat (first | refine GD ?_ | refine NW fun _ => ?_)
    refine ret1 rfl ⟨M ++ [priA p q P, dsk q P.D], by unfold ErPost; rw [hdef]; exact ⟨M, hM, rfl⟩, ?_⟩
    rw [List.append_assoc]
    exact Imp.appL (Imp.trans II (Imp.trans (hfold [dsk q P.D, F]) II)) M
  rw [if_neg (by omega)] at hdef
  repeat (first | refine GD ?_ | refine NW fun _ => ?_)
  refine WL.step rfl (OP.call (pre := [gateA g P.G]) rfl rfl hgf PS rfl rfl ?_)
  intro er M hM
  cases hq : freezeG P.G round 6 with
  | error c =>
    rw [hq] at hM hdef
    obtain ⟨E, hE, rfl⟩ := hM
    obtain ⟨y, ch, hc1, rfl, rfl⟩ := isEr_hd hE (by simp)
    dsimp only [List.cons_append, List.nil_append]
    have hwr := pwrong_ok round (y :: ch) c (fun h => nomatch h.1)
    dsimp only [valOf] at hwr
    repeat (first | refine GD ?_ | refine NW fun _ => ?_)
    refine WL.step rfl (OP.call (pre := [chainR (y :: ch) c]) rfl rfl hwr PS rfl rfl ?_)
    intro w M hM
    rw [hc1] at hM
    repeat (first | refine GD ?_ | refine NW fun _ => ?_)
    refine ret1 rfl ⟨M ++ [priA p q P, dsk q P.D], by unfold ErPost; rw [hdef]; exact ⟨M, hM, rfl⟩, ?_⟩
    rw [List.append_assoc]
    exact Imp.appL (Imp.trans II (Imp.trans (hfold [dsk q P.D, F]) II)) M
  | ok g2 =>
    rw [hq] at hM hdef
    obtain ⟨rfl, rfl⟩ := hM
    dsimp only [List.cons_append, List.nil_append] at hdef ⊢
    have hr1 : 1 ≤ round := by
      unfold freezeG at hq
      split at hq
      · cases hq
      · rename_i h; omega
    by_cases h3 : P.floor < round
    rotate_left
    · rw [if_neg h3] at hdef
      repeat (first | refine GD ?_ | refine NW fun _ => ?_)
      refine ret1 rfl ⟨[] ++ [priA p q { P with G := g2 }, dsk q P.D], by unfold ErPost; rw [hdef]; exact ⟨[], ⟨rfl, rfl⟩, rfl⟩, ?_⟩
      have hf := priFold p q { P with G := g2 } v g s (N := [dsk q P.D, F])
      exact Imp.trans II hf
    rw [if_pos h3] at hdef
    have hfS : floorS round = sectorM (numB (clampN round)) := by unfold floorS; rw [if_neg (by omega)]
    have h64 : (sectorM (numB (clampN round))).length = 64 := sectorM_len (flB_len round)
    have hwr := fun a cap => dwrite_ok q P.D (P.V.J.ring + 10 : Nat) (sectorM (numB (clampN round))) a cap (by rw [I.W]; decide) (by omega)
    have hfs := fsector_rt round
    have hok : (P.D.put (P.V.J.ring + 10) (floorS round)).ok := Dsk.put_ok I.V.j.dok (by omega) (floorS_len round)
    have hfl := dflush_ok q (P.D.put (P.V.J.ring + 10) (floorS round)) hok (by show (P.D.W ++ [_]).length < 1000000; rw [I.W]; exact (by decide : (0 + 1 : Nat) < 1000000))
    have hsc := psectors_ro P.V.J.ring (by omega)
    have he : (P.V.J.ring : Int) + 11 - 1 = (P.V.J.ring + 10 : Nat) := by omega
    rw [← hfS] at hwr hfs h64
    rw [← he] at hwr
    have het : ((P.V.J.ring : Int) + 11 - 1).toNat = P.V.J.ring + 10 := by omega
    generalize floorS round = fS at *
    repeat (first | refine GD ?_ | refine NW fun _ => ?_)
    refine RD 12 13 (_) ?_
    refine WP 0 ?_
    refine WP 1 ?_
    refine WP 2 ?_
    refine VV 3 ?_
    refine WP 4 ?_
    refine WP 5 ?_
    refine WP 6 ?_
    refine VV 7 ?_
    refine WP 10 ?_
    refine WH.only 8 rfl rfl (by kernel_rfl) rfl (OP.callRO rfl rfl (hsc) ((fun _ _ => trivial)) rfl rfl ⟨fun _ => II, ?_⟩)
    refine WP 9 ?_
    refine WH.only 11 rfl rfl (by kernel_rfl) rfl (OP.callRT rfl rfl hfs (fun _ _ => trivial) rfl rfl (fun v E hE' => ?_))
    obtain ⟨a6, cap6, rfl, rfl⟩ := hE'
    refine ⟨fun _ => II, ?_⟩
    refine WH.only 12 rfl rfl (by kernel_rfl) rfl (OP.call (pre := [dsk q P.D, ownS a6 fS.length cap6 5 1 (fS.map byteV)]) rfl rfl (hwr a6 cap6) PS rfl rfl (fun v M hM => ?_))
    unfold WrPost at hM
    rw [if_pos ⟨by omega, h64⟩, het] at hM
    obtain ⟨rfl, rfl⟩ := hM
    refine ⟨(fun h => nomatch h), ?_⟩
    refine DN ?_
    repeat (first | refine GD ?_ | refine NW fun _ => ?_)
    refine WL.step rfl (OP.call (pre := [dsk q (P.D.put (P.V.J.ring + 10) fS)]) rfl rfl hfl PS rfl rfl ?_)
    rintro _ _ ⟨rfl, rfl⟩
    repeat (first | refine GD ?_ | refine NW fun _ => ?_)
    refine ret1 rfl ⟨[] ++ [priA p q { P with G := g2, floor := round, D := (P.D.put (P.V.J.ring + 10) fS).flush }, dsk q (P.D.put (P.V.J.ring + 10) fS).flush], by unfold ErPost; rw [hdef]; exact ⟨[], ⟨rfl, rfl⟩, rfl⟩, ?_⟩
    have hf := priFold p q { P with G := g2, floor := round, D := (P.D.put (P.V.J.ring + 10) fS).flush } v g s (N := [dsk q (P.D.put (P.V.J.ring + 10) fS).flush, F])
    exact Imp.trans II hf
set_option maxHeartbeats 8000000 in
set_option maxRecDepth 10000 in
theorem pmark_ok (p q : Nat) (P : Pri) (B : Int) (I : PInv P B) (hB : B + 4 ≤ widest) (round : Int) : Triple G 20 [.pointer (some ⟨p, 0, none⟩), .int .i64 round] [priA p q P, dsk q P.D] (ErPost p q (markP P round)) := by
  refine Triple.enter Tryz.func20 rfl (by decide) rfl Tryz.ntmps20 rfl (fun F => ?_)
  refine WC.open (M := [dsk q P.D, F]) (Ls := priL p q P) II (fun x => ?_)
  obtain ⟨v, g, s⟩ := x
  have hdef : markP P round = if round < 1 ∨ P.G.round ≠ round then (some ([(primT, round)], 9), P)
    else if P.marked = round then (none, P)
    else match markV P.V P.D round with
    | .error (l, c) => (some ((primT, round) :: l, c), P)
    | .ok (V', D') => (none, { P with V := V', D := D'.flush, marked := round }) := rfl
  have hfr := I.fr
  have hrn := I.rnd
  have hdn := pdown_ro p q P.V.J.ring v (.pointer (some ⟨g, 0, none⟩)) (.pointer (some ⟨s, 0, none⟩)) P.marked P.floor P.acked
  have hmk := vmark_ok v q P.V P.D round (I.rng (by omega)) I.V.len (by rw [I.W]; decide)
  unfold AppVP at hmk
  have hfold := fun (N : List Assn) => priFold p q P v g s (N := N)
  unfold priL
  dsimp only [List.cons_append, List.nil_append]
  unfold pndC at *
  repeat (first | refine GD ?_ | refine NW fun _ => ?_)
  refine WL.step rfl (OP.callRO rfl rfl hdn (Ent.at (up_blk _ _ _) MM) rfl rfl ?_)
  by_cases h0 : round < 1
  · rw [if_pos (.inl h0)] at hdef
    repeat (first | refine GD ?_ | refine NW fun _ => ?_)
    refine WL.step rfl (OP.call (pre := []) rfl rfl (pwrong1_ok round 9 (by decide)) PS rfl rfl ?_)
    intro w M hM
    repeat (first | refine GD ?_ | refine NW fun _ => ?_)
    refine ret1 rfl ⟨M ++ [priA p q P, dsk q P.D], by unfold ErPost; rw [hdef]; exact ⟨M, hM, rfl⟩, ?_⟩
    rw [List.append_assoc]
    exact Imp.appL (Imp.trans II (Imp.trans (hfold [dsk q P.D, F]) II)) M
  repeat (first | refine GD ?_ | refine NW fun _ => ?_)
  refine WL.guardT rfl rfl rfl rfl (OP.callRO rfl rfl (gfrozen_ro g P.G) (Ent.at (up_gateA _ _) MM) rfl rfl ?_)
  by_cases h1 : P.G.round = round
  rotate_left
  · rw [if_pos (.inr h1)] at hdef
    repeat (first | refine GD ?_ | refine NW fun _ => ?_)
    refine WL.step rfl (OP.call (pre := []) rfl rfl (pwrong1_ok round 9 (by decide)) PS rfl rfl ?_)
    intro w M hM
    repeat (first | refine GD ?_ | refine NW fun _ => ?_)
    refine ret1 rfl ⟨M ++ [priA p q P, dsk q P.D], by unfold ErPost; rw [hdef]; exact ⟨M, hM, rfl⟩, ?_⟩
    rw [List.append_assoc]
    exact Imp.appL (Imp.trans II (Imp.trans (hfold [dsk q P.D, F]) II)) M
  rw [if_neg (fun h => by rcases h with h | h; exact h0 h; exact h h1)] at hdef
  by_cases h2 : P.marked = round
  · rw [if_pos h2] at hdef
    repeat (first | refine GD ?_ | refine NW fun _ => ?_)
    refine ret1 rfl ⟨[] ++ [priA p q P, dsk q P.D], by unfold ErPost; rw [hdef]; exact ⟨[], ⟨rfl, rfl⟩, rfl⟩, ?_⟩
    exact Imp.trans II (Imp.trans (hfold [dsk q P.D, F]) II)
  rw [if_neg h2] at hdef
  repeat (first | refine GD ?_ | refine NW fun _ => ?_)
  refine WL.step rfl (OP.call (pre := [vol v q P.V, dsk q P.D]) rfl rfl hmk PS rfl rfl ?_)
  intro er M hM
  rcases I.mark hB (n := round) (by omega) with ⟨_, hq⟩ | ⟨_, V', D', hq, _, _, _, _, e4, d1, d2, _⟩
  · rw [hq] at hM hdef
    obtain ⟨e, E, hE, rfl, rfl⟩ := hM
    obtain ⟨y, ch, hc1, rfl, rfl⟩ := isEr_hd hE (by simp)
    dsimp only [List.cons_append, List.nil_append]
    have hwr := pwrong_ok round (y :: ch) 6 (fun h => nomatch h.1)
    dsimp only [valOf] at hwr
    repeat (first | refine GD ?_ | refine NW fun _ => ?_)
    refine WL.step rfl (OP.call (pre := [chainR (y :: ch) 6]) rfl rfl hwr PS rfl rfl ?_)
    intro w M hM
    rw [hc1] at hM
    repeat (first | refine GD ?_ | refine NW fun _ => ?_)
    refine ret1 rfl ⟨M ++ [priA p q P, dsk q P.D], by unfold ErPost; rw [hdef]; exact ⟨M, hM, rfl⟩, ?_⟩
    rw [List.append_assoc]
    exact Imp.appL (Imp.trans II (Imp.trans (hfold [dsk q P.D, F]) II)) M
  · rw [hq] at hM hdef
    obtain ⟨rfl, rfl⟩ := hM
    dsimp only [List.cons_append, List.nil_append] at hdef ⊢
    repeat (first | refine GD ?_ | refine NW fun _ => ?_)
    refine WL.step rfl (OP.call (pre := [vol v q V', dsk q D']) rfl rfl (vflush_ok v q V' D' d1 (by omega)) PS rfl rfl ?_)
    rintro _ _ ⟨rfl, rfl⟩
    repeat (first | refine GD ?_ | refine NW fun _ => ?_)
    refine ret1 rfl ⟨[] ++ [priA p q { P with V := V', D := D'.flush, marked := round }, dsk q D'.flush], by unfold ErPost; rw [hdef]; exact ⟨[], ⟨rfl, rfl⟩, rfl⟩, ?_⟩
    have hf := priFold p q { P with V := V', D := D'.flush, marked := round } v g s (N := [dsk q D'.flush, F])
    dsimp only at hf
    rw [e4] at hf
    exact Imp.trans II hf
set_option maxHeartbeats 8000000 in
set_option maxRecDepth 10000 in
theorem pack_ok (p q : Nat) (P : Pri) (B : Int) (I : PInv P B) (hB : B + 4 ≤ widest) (upto : Int) : Triple G 31 [.pointer (some ⟨p, 0, none⟩), .int .i64 upto] [priA p q P, dsk q P.D] (ErPost p q (ackP P upto)) := by
  refine Triple.enter Tryz.func31 rfl (by decide) rfl Tryz.ntmps31 rfl (fun F => ?_)
  refine WC.open (M := [dsk q P.D, F]) (Ls := priL p q P) II (fun x => ?_)
  obtain ⟨v, g, s⟩ := x
  have hdef : ackP P upto = if upto < 0 ∨ P.V.J.next ≤ upto then (some (([(primT, upto)], 5) : Er1), P)
    else if upto ≤ P.acked then (none, P)
    else match ckV P.V P.D upto with
      | .ok (V', D') => (none, { P with V := V', D := D', acked := upto })
      | .error _ => (none, P) := rfl
  have hdn := pdown_ro p q P.V.J.ring v (.pointer (some ⟨g, 0, none⟩)) (.pointer (some ⟨s, 0, none⟩)) P.marked P.floor P.acked
  have hnx := vnext_ro v q P.V (I.rng (by omega))
  have hck := vcheck_ok v q P.V P.D upto (I.rng (by omega)) I.V.j.dok I.V.len (by rw [I.W]; decide)
  unfold CkVP at hck
  have hfold := fun (N : List Assn) => priFold p q P v g s (N := N)
  unfold priL
  dsimp only [List.cons_append, List.nil_append]
  unfold pndC at *
  repeat (first | refine GD ?_ | refine NW fun _ => ?_)
  refine WL.step rfl (OP.callRO rfl rfl hdn (Ent.at (up_blk _ _ _) MM) rfl rfl ?_)
  by_cases h0 : upto < 0
  · rw [if_pos (.inl h0)] at hdef
    repeat (first | refine GD ?_ | refine NW fun _ => ?_)
    refine WL.step rfl (OP.call (pre := []) rfl rfl (pwrong1_ok upto 5 (by decide)) PS rfl rfl ?_)
    intro w M hM
    repeat (first | refine GD ?_ | refine NW fun _ => ?_)
    refine ret1 rfl ⟨M ++ [priA p q P, dsk q P.D], by unfold ErPost; rw [hdef]; exact ⟨M, hM, rfl⟩, ?_⟩
    rw [List.append_assoc]
    exact Imp.appL (Imp.trans II (Imp.trans (hfold [dsk q P.D, F]) II)) M
  repeat (first | refine GD ?_ | refine NW fun _ => ?_)
  refine WL.guardT rfl rfl rfl rfl (OP.callRO rfl rfl hnx (Ent.at (up_vol _ _ _) MM) rfl rfl ?_)
  by_cases h1 : P.V.J.next ≤ upto
  · rw [if_pos (.inr h1)] at hdef
    repeat (first | refine GD ?_ | refine NW fun _ => ?_)
    refine WL.step rfl (OP.call (pre := []) rfl rfl (pwrong1_ok upto 5 (by decide)) PS rfl rfl ?_)
    intro w M hM
    repeat (first | refine GD ?_ | refine NW fun _ => ?_)
    refine ret1 rfl ⟨M ++ [priA p q P, dsk q P.D], by unfold ErPost; rw [hdef]; exact ⟨M, hM, rfl⟩, ?_⟩
    rw [List.append_assoc]
    exact Imp.appL (Imp.trans II (Imp.trans (hfold [dsk q P.D, F]) II)) M
  have hn : ¬ (upto < 0 ∨ P.V.J.next ≤ upto) := fun h => by rcases h with h | h; exact h0 h; exact h1 h
  rw [if_neg hn] at hdef
  by_cases h2 : upto ≤ P.acked
  · rw [if_pos h2] at hdef
    repeat (first | refine GD ?_ | refine NW fun _ => ?_)
    refine ret1 rfl ⟨[] ++ [priA p q P, dsk q P.D], by unfold ErPost; rw [hdef]; exact ⟨[], ⟨rfl, rfl⟩, rfl⟩, ?_⟩
    exact Imp.trans II (Imp.trans (hfold [dsk q P.D, F]) II)
  rw [if_neg h2] at hdef
  obtain ⟨V', D', hq, _, _, e2, _⟩ := I.ackd hB hn h2
  rw [hq] at hdef hck
  dsimp only at hdef hck
  repeat (first | refine GD ?_ | refine NW fun _ => ?_)
  refine WL.step rfl (OP.call (pre := [vol v q P.V, dsk q P.D]) rfl rfl hck PS rfl rfl ?_)
  rintro _ _ ⟨rfl, rfl⟩
  dsimp only [List.cons_append, List.nil_append]
  repeat (first | refine GD ?_ | refine NW fun _ => ?_)
  refine WL.step rfl (OP.callRO rfl rfl (pwrong_nil upto) (fun _ _ => trivial) rfl rfl ?_)
  repeat (first | refine GD ?_ | refine NW fun _ => ?_)
  refine ret1 rfl ⟨[] ++ [priA p q { P with V := V', D := D', acked := upto }, dsk q D'], by unfold ErPost; rw [hdef]; exact ⟨[], ⟨rfl, rfl⟩, rfl⟩, ?_⟩
  have hf := priFold p q { P with V := V', D := D', acked := upto } v g s (N := [dsk q D', F])
  dsimp only at hf
  rw [e2] at hf
  exact Imp.trans II hf
end Go.Proofs.YtanjfjiaheghcaaGreatDoor
/- Contracts of functions of the given program, and plain laws on what they compute: parts of the proofs of laws. -/

namespace Go.Proofs.YtanjfjiaheghcaaGreatDoor
open Go Go.GL

def WritePost (p q : Nat) (R : Except Er1 Int × Pri) (x : Value) (M : List Assn) : Prop := match R.1 with
  | .ok k => x = .tuple #[.int .i64 k, .nilIface] ∧ M = [priA p q R.2, dsk q R.2.D]
  | .error er => ∃ e E, IsEr (some er) e E ∧ x = .tuple #[.int .i64 0, e] ∧ M = E ++ [priA p q R.2, dsk q R.2.D]
set_option maxHeartbeats 8000000 in
set_option maxRecDepth 10000 in
theorem pwrite_ok (p q : Nat) (P : Pri) (B : Int) (I : PInv P B) (hB : B + 4 ≤ widest) (c : Call) (hsz : c.2.2.size < 1000000) (e now : Int) : Triple G 14 [.pointer (some ⟨p, 0, none⟩), .agg (encCa c).toArray, .int .i64 e, .int .i64 now] [priA p q P, dsk q P.D] (WritePost p q (writeP P c e now)) := by
  refine Triple.enter Tryz.func14 rfl (by decide) rfl Tryz.ntmps14 rfl (fun F => ?_)
  refine WC.open (M := [dsk q P.D, F]) (Ls := priL p q P) II (fun x => ?_)
  obtain ⟨v, g, s⟩ := x
  have hdef : writeP P c e now = match checkS P.S e now with
    | some k => (.error ([(primT, c.2.1), (leaseT, e)], k), P.at_ now)
    | none => if ¬ (0 ≤ c.2.1 ∧ c.2.1 < 8) then (.error ([(primT, c.2.1)], 5), P.at_ now)
      else if 16 < c.2.2.size then (.error ([(primT, c.2.1)], 1), P.at_ now)
      else enterP (P.at_ now) c := rfl
  have hen : enterP (P.at_ now) c = if P.G.round = 0 then match doP (P.at_ now) c with
      | .error (l, k) => (.error ((primT, c.2.1) :: l, k), P.at_ now)
      | .ok (k, P') => (.ok k, P')
    else if 4 ≤ P.G.wait.length then (.error ([(primT, c.2.1), (gateT, P.G.round)], 7), P.at_ now)
    else (.ok 0, { P.at_ now with G := { P.G with wait := P.G.wait ++ [c] } }) := rfl
  have hdn := pdown_ro p q P.V.J.ring v (.pointer (some ⟨g, 0, none⟩)) (.pointer (some ⟨s, 0, none⟩)) P.marked P.floor P.acked
  have hck := lcheck_ok s P.S e now
  have hrt := pright_rt c hsz
  have hro : rightO c = if ¬ (0 ≤ c.2.1 ∧ c.2.1 < 8) then some ([], 5) else if 16 < c.2.2.size then some ([], 1) else none := rfl
  have hdo := fun hc => pdo_ok p q (P.at_ now) B (I.at_ now) hB c hc
  unfold DoPost at hdo
  have hge := genter_ok g P.G c
  unfold EnterG at hge
  have hfold := fun (N : List Assn) => priFold p q (P.at_ now) v g s (N := N)
  unfold WritePost
  unfold priL
  dsimp only [List.cons_append, List.nil_append]
  have hst : (P.at_ now).S = P.S.at_ now := rfl
  obtain ⟨id, block, data⟩ := c
  have hec : encCa (id, block, data) = [.int .i64 id, .int .i64 block, .string data] := rfl
  rw [hec] at *
  dsimp only at hdef hen hro
  repeat (first | refine GD ?_ | refine NW fun _ => ?_)
  refine WL.step rfl (OP.callRO rfl rfl hdn (Ent.at (up_blk _ _ _) MM) rfl rfl ?_)
  repeat (first | refine GD ?_ | refine NW fun _ => ?_)
  rename_i cb
  refine WL.step rfl (OP.call (pre := [siteA s P.S]) rfl rfl hck PS rfl rfl ?_)
  rintro er _ ⟨E, hE, rfl⟩
  cases hk : checkS P.S e now with
  | some k =>
    rw [hk] at hE hdef
    obtain ⟨y, ch, hc1, rfl, rfl⟩ := isEr_hd hE (by simp)
    have hkn := checkS_ne hk
    dsimp only [List.cons_append, List.nil_append]
    repeat (first | refine GD ?_ | refine NW fun _ => ?_)
    refine WL.step rfl (OP.call (pre := [chainR (y :: ch) k]) rfl rfl (pwrong_ok block (y :: ch) k (fun h => nomatch h.1)) PS rfl rfl ?_)
    intro w M hM
    repeat (first | refine GD ?_ | refine NW fun _ => ?_)
    refine ret2 rfl rfl ⟨M ++ [priA p q (P.at_ now), dsk q P.D], ?_, ?_⟩
    · rw [hdef]
      exact ⟨w, M, (hc1 ▸ hM), rfl, rfl⟩
    · rw [List.append_assoc]
      refine Imp.appL ?_ _
      exact Imp.trans II (Imp.trans (hfold [dsk q P.D, F]) II)
  | none =>
  rw [hk] at hE hdef
  obtain ⟨rfl, rfl⟩ := hE
  dsimp only [List.nil_append] at hdef ⊢
  by_cases h1 : 0 ≤ block ∧ block < 8
  rotate_left
  · rw [if_pos h1] at hdef hro
    rw [hro] at hrt
    repeat (first | refine GD ?_ | refine NW fun _ => ?_)
    refine WL.step rfl (OP.callRT rfl rfl hrt (fun _ _ => trivial) rfl rfl ?_)
    rintro _ _ ⟨ch, hch, rfl, rfl⟩
    cases ch with
    | cons y ch => cases hch
    | nil =>
    dsimp only [valOf, List.cons_append, List.nil_append]
    repeat (first | refine GD ?_ | refine NW fun _ => ?_)
    refine WL.step rfl (OP.call (pre := [chainR [] 5]) rfl rfl (pwrong_ok block [] 5 (fun h => absurd h.2 (by decide))) PS rfl rfl ?_)
    intro w M hM
    repeat (first | refine GD ?_ | refine NW fun _ => ?_)
    refine ret2 rfl rfl ⟨M ++ [priA p q (P.at_ now), dsk q P.D], ?_, ?_⟩
    · rw [hdef]
      exact ⟨w, M, hM, rfl, rfl⟩
    · rw [List.append_assoc]
      refine Imp.appL ?_ _
      exact Imp.trans II (Imp.trans (hfold [dsk q P.D, F]) II)
  rw [if_neg (fun h => h h1)] at hdef hro
  by_cases h2 : 16 < data.size
  · rw [if_pos h2] at hdef hro
    rw [hro] at hrt
    repeat (first | refine GD ?_ | refine NW fun _ => ?_)
    refine WL.step rfl (OP.callRT rfl rfl hrt (fun _ _ => trivial) rfl rfl ?_)
    rintro _ _ ⟨ch, hch, rfl, rfl⟩
    cases ch with
    | cons y ch => cases hch
    | nil =>
    dsimp only [valOf, List.cons_append, List.nil_append]
    repeat (first | refine GD ?_ | refine NW fun _ => ?_)
    refine WL.step rfl (OP.call (pre := [chainR [] 1]) rfl rfl (pwrong_ok block [] 1 (fun h => absurd h.2 (by decide))) PS rfl rfl ?_)
    intro w M hM
    repeat (first | refine GD ?_ | refine NW fun _ => ?_)
    refine ret2 rfl rfl ⟨M ++ [priA p q (P.at_ now), dsk q P.D], ?_, ?_⟩
    · rw [hdef]
      exact ⟨w, M, hM, rfl, rfl⟩
    · rw [List.append_assoc]
      refine Imp.appL ?_ _
      exact Imp.trans II (Imp.trans (hfold [dsk q P.D, F]) II)
  rw [if_neg h2] at hdef hro
  rw [hro] at hrt
  rw [hen] at hdef
  repeat (first | refine GD ?_ | refine NW fun _ => ?_)
  refine WL.step rfl (OP.callRT rfl rfl hrt (fun _ _ => trivial) rfl rfl ?_)
  rintro _ _ ⟨rfl, rfl⟩
  dsimp only [List.nil_append]
  repeat (first | refine GD ?_ | refine NW fun _ => ?_)
  by_cases h0 : P.G.round = 0
  · rw [if_pos h0] at hdef
    have hge' : Triple G 53 [.pointer (some ⟨g, 0, none⟩), .agg #[.int .i64 id, .int .i64 block, .string data]] [gateA g P.G] (fun v M => v = .tuple #[.bool true, .nilIface] ∧ M = [gateA g P.G]) := hge.mono fun v M h => by
      rw [if_pos h0] at h
      exact ⟨M, h, Imp.refl _⟩
    refine RD 5 11 (_) ?_
    refine WP 0 ?_
    refine WP 1 ?_
    refine WP 2 ?_
    refine VV 3 ?_
    refine VL 4 (.agg (encCa (id, block, data)).toArray) rfl rfl rfl rfl (.inr ⟨rfl, encCa (id, block, data), rfl, rfl, Ent.whole MM⟩) ?_
    refine WH.only 5 rfl rfl (by kernel_rfl) rfl (OP.call (pre := [gateA g P.G]) rfl rfl hge' PS rfl rfl (fun x M hM => ?_))
    obtain ⟨rfl, rfl⟩ := hM
    refine ⟨(fun h => nomatch h), ?_⟩
    refine WP 6 ?_
    refine WP 7 ?_
    refine WP 8 ?_
    refine WP 9 ?_
    refine WP 10 ?_
    refine DN ?_
    refine WC.imp (M := [priA p q (P.at_ now), dsk q P.D, blk cb [.int .i64 id, .int .i64 block, .string data] caT, F]) (Imp.trans II (Imp.trans (hfold [dsk q P.D, blk cb [.int .i64 id, .int .i64 block, .string data] caT, F]) II)) ?_
    have hdo' := hdo ⟨h1, by show data.size ≤ 16; omega⟩
    cases hq : doP (P.at_ now) (id, block, data) with
    | error lc =>
      obtain ⟨l, k⟩ := lc
      rw [hq] at hdef hdo'
      dsimp only at hdef hdo'
      repeat (first | refine GD ?_ | refine NW fun _ => ?_)
      refine WL.step rfl (OP.call (pre := [priA p q (P.at_ now), dsk q P.D]) rfl rfl hdo' PS rfl rfl ?_)
      rintro _ _ ⟨e', E, hE, rfl, rfl⟩
      obtain ⟨ch, hc1, rfl, rfl⟩ := hE
      have hkn := doP_ne I hB ⟨h1, by show data.size ≤ 16; omega⟩ hq
      have hwr := pwrong_ok block ch k (fun h => hkn h.2)
      cases ch with
      | nil =>
        dsimp only [valOf, List.cons_append, List.nil_append] at hwr ⊢
        repeat (first | refine GD ?_ | refine NW fun _ => ?_)
        refine WL.step rfl (OP.call (pre := [chainR [] k]) rfl rfl hwr PS rfl rfl ?_)
        intro w M hM
        rw [hc1] at hM
        repeat (first | refine GD ?_ | refine NW fun _ => ?_)
        refine ret2 rfl rfl ⟨M ++ [priA p q (P.at_ now), dsk q P.D], by rw [hdef]; exact ⟨w, M, hM, rfl, rfl⟩, ?_⟩
        rw [List.append_assoc]
        exact Imp.appL II _
      | cons y ch =>
        dsimp only [valOf, List.cons_append, List.nil_append] at hwr ⊢
        repeat (first | refine GD ?_ | refine NW fun _ => ?_)
        refine WL.step rfl (OP.call (pre := [chainR (y :: ch) k]) rfl rfl hwr PS rfl rfl ?_)
        intro w M hM
        rw [hc1] at hM
        repeat (first | refine GD ?_ | refine NW fun _ => ?_)
        refine ret2 rfl rfl ⟨M ++ [priA p q (P.at_ now), dsk q P.D], by rw [hdef]; exact ⟨w, M, hM, rfl, rfl⟩, ?_⟩
        rw [List.append_assoc]
        exact Imp.appL II _
    | ok y =>
      obtain ⟨k, P'⟩ := y
      rw [hq] at hdef hdo'
      dsimp only at hdef hdo'
      repeat (first | refine GD ?_ | refine NW fun _ => ?_)
      refine WL.step rfl (OP.call (pre := [priA p q (P.at_ now), dsk q P.D]) rfl rfl hdo' PS rfl rfl ?_)
      rintro _ _ ⟨rfl, rfl⟩
      dsimp only [List.cons_append, List.nil_append]
      repeat (first | refine GD ?_ | refine NW fun _ => ?_)
      refine WL.step rfl (OP.callRO rfl rfl (pwrong_nil block) (fun _ _ => trivial) rfl rfl ?_)
      repeat (first | refine GD ?_ | refine NW fun _ => ?_)
      exact ret2 rfl rfl ⟨[priA p q P', dsk q P'.D], by rw [hdef]; exact ⟨rfl, rfl⟩, II⟩
  rw [if_neg h0] at hdef
  by_cases h4 : 4 ≤ P.G.wait.length
  · rw [if_pos h4] at hdef
    have hge' : Triple G 53 [.pointer (some ⟨g, 0, none⟩), .agg #[.int .i64 id, .int .i64 block, .string data]] [gateA g P.G] (fun v M => ∃ y E, E = [chainR [y] 7] ∧ [y].map Prod.snd = [(gateT, P.G.round)] ∧ v = .tuple #[.bool false, .iface 169 (.pointer (some ⟨y.1, 0, none⟩))] ∧ M = E ++ [gateA g P.G]) := hge.mono fun v M h => by
      rw [if_neg h0, if_pos h4] at h
      obtain ⟨e, E, hE, rfl, rfl⟩ := h
      obtain ⟨y, ch, hc1, rfl, rfl⟩ := isEr_hd hE (by simp)
      cases ch with
      | nil => exact ⟨_, ⟨y, _, rfl, hc1, rfl, rfl⟩, Imp.refl _⟩
      | cons z ch => simp at hc1
    refine RD 5 11 (_) ?_
    refine WP 0 ?_
    refine WP 1 ?_
    refine WP 2 ?_
    refine VV 3 ?_
    refine VL 4 (.agg (encCa (id, block, data)).toArray) rfl rfl rfl rfl (.inr ⟨rfl, encCa (id, block, data), rfl, rfl, Ent.whole MM⟩) ?_
    refine WH.only 5 rfl rfl (by kernel_rfl) rfl (OP.call (pre := [gateA g P.G]) rfl rfl hge' PS rfl rfl (fun x M hM => ?_))
    obtain ⟨y, _, rfl, hc1, rfl, rfl⟩ := hM
    refine ⟨(fun h => nomatch h), ?_⟩
    refine WP 6 ?_
    refine WP 7 ?_
    refine WP 8 ?_
    refine WP 9 ?_
    refine WP 10 ?_
    refine DN ?_
    repeat (first | refine GD ?_ | refine NW fun _ => ?_)
    refine WL.step rfl (OP.call (pre := [chainR [y] 7]) rfl rfl (pwrong_ok block [y] 7 (fun h => nomatch h.1)) PS rfl rfl ?_)
    intro w M hM
    repeat (first | refine GD ?_ | refine NW fun _ => ?_)
    refine ret2 rfl rfl ⟨M ++ [priA p q (P.at_ now), dsk q P.D], ?_, ?_⟩
    · rw [hdef]
      exact ⟨w, M, (hc1 ▸ hM), rfl, rfl⟩
    · rw [List.append_assoc]
      refine Imp.appL ?_ _
      exact Imp.trans II (Imp.trans (hfold [dsk q P.D, F]) II)
  rw [if_neg h4] at hdef
  have hge' : Triple G 53 [.pointer (some ⟨g, 0, none⟩), .agg #[.int .i64 id, .int .i64 block, .string data]] [gateA g P.G] (fun v M => v = .tuple #[.bool false, .nilIface] ∧ M = [gateA g { P.G with wait := P.G.wait ++ [(id, block, data)] }]) := hge.mono fun v M h => by
    rw [if_neg h0, if_neg h4] at h
    exact ⟨M, h, Imp.refl _⟩
  refine RD 5 11 (_) ?_
  refine WP 0 ?_
  refine WP 1 ?_
  refine WP 2 ?_
  refine VV 3 ?_
  refine VL 4 (.agg (encCa (id, block, data)).toArray) rfl rfl rfl rfl (.inr ⟨rfl, encCa (id, block, data), rfl, rfl, Ent.whole MM⟩) ?_
  refine WH.only 5 rfl rfl (by kernel_rfl) rfl (OP.call (pre := [gateA g P.G]) rfl rfl hge' PS rfl rfl (fun x M hM => ?_))
  obtain ⟨rfl, rfl⟩ := hM
  refine ⟨(fun h => nomatch h), ?_⟩
  refine WP 6 ?_
  refine WP 7 ?_
  refine WP 8 ?_
  refine WP 9 ?_
  refine WP 10 ?_
  refine DN ?_
  repeat (first | refine GD ?_ | refine NW fun _ => ?_)
  refine WL.step rfl (OP.callRO rfl rfl (pwrong_nil block) (fun _ _ => trivial) rfl rfl ?_)
  repeat (first | refine GD ?_ | refine NW fun _ => ?_)
  refine ret2 rfl rfl ⟨[priA p q { P.at_ now with G := { P.G with wait := P.G.wait ++ [(id, block, data)] } }, dsk q P.D], by rw [hdef]; exact ⟨rfl, rfl⟩, ?_⟩
  exact Imp.trans II (priFold p q { P.at_ now with G := { P.G with wait := P.G.wait ++ [(id, block, data)] } } v g s (N := [dsk q P.D, F]))
end Go.Proofs.YtanjfjiaheghcaaGreatDoor
/- Contracts of functions of the given program, and plain laws on what they compute: parts of the proofs of laws. -/

namespace Go.Proofs.YtanjfjiaheghcaaGreatDoor
open Go Go.GL Go.Extern

/-- a type's handle -/
def hd (t : Nat) : Value := .pointer (some ⟨1, t, none⟩)
def rt (t : Nat) : Value := .iface 249 (.agg #[hd t])
def errT : Value := rt 32
theorem xValueOf : IsExt Tryz.prog 135 (fun args => ReflectliteValue.unpack (args.getD 0 (.tuple #[]))) := fun args w => run_callFunc_extern (e := (fun args => ReflectliteValue.unpack (args.getD 0 (.tuple #[])))) Tryz.func135 (by kernel_rfl) (by kernel_rfl) (by kernel_rfl) (by kernel_rfl) args w
theorem xType : IsExt Tryz.prog 136 (ReflectliteValue.methodAny (ReflectliteValue.valueError "reflectlite.Value.Type" 0) (fun t _ _ _ => ReflectliteType.toType t)) := fun args w => run_callFunc_extern (e := (ReflectliteValue.methodAny (ReflectliteValue.valueError "reflectlite.Value.Type" 0) (fun t _ _ _ => ReflectliteType.toType t))) Tryz.func136 (by kernel_rfl) (by kernel_rfl) (by kernel_rfl) (by kernel_rfl) args w
theorem xIsNil : IsExt Tryz.prog 137 (ReflectliteValue.method (ReflectliteValue.valueError "reflectlite.Value.IsNil" 0) ReflectliteValue.isNil) := fun args w => run_callFunc_extern (e := (ReflectliteValue.method (ReflectliteValue.valueError "reflectlite.Value.IsNil" 0) ReflectliteValue.isNil)) Tryz.func137 (by kernel_rfl) (by kernel_rfl) (by kernel_rfl) (by kernel_rfl) args w
theorem xKind : IsExt Tryz.prog 194 (ReflectliteType.abiMethod fun t => do pure (.int .u8 (← Rtype.kind t))) := fun args w => run_callFunc_extern (e := (ReflectliteType.abiMethod fun t => do pure (.int .u8 (← Rtype.kind t)))) Tryz.func194 (by kernel_rfl) (by kernel_rfl) (by kernel_rfl) (by kernel_rfl) args w
theorem xElem : IsExt Tryz.prog 208 (ReflectliteType.method ReflectliteType.elem) := fun args w => run_callFunc_extern (e := (ReflectliteType.method ReflectliteType.elem)) Tryz.func208 (by kernel_rfl) (by kernel_rfl) (by kernel_rfl) (by kernel_rfl) args w
theorem xImplements : IsExt Tryz.prog 209 (ReflectliteType.relation "Implements" ReflectliteType.implements_) := fun args w => run_callFunc_extern (e := (ReflectliteType.relation "Implements" ReflectliteType.implements_)) Tryz.func209 (by kernel_rfl) (by kernel_rfl) (by kernel_rfl) (by kernel_rfl) args w
theorem xTypeOf : IsExt Tryz.prog 159 ReflectliteType.typeOf := fun args w => run_callFunc_extern (e := ReflectliteType.typeOf) Tryz.func159 (by kernel_rfl) (by kernel_rfl) (by kernel_rfl) (by kernel_rfl) args w
theorem xAssignableTo : IsExt Tryz.prog 206 (ReflectliteType.relation "AssignableTo" ReflectliteType.assignableTo) := fun args w => run_callFunc_extern (e := (ReflectliteType.relation "AssignableTo" ReflectliteType.assignableTo)) Tryz.func206 (by kernel_rfl) (by kernel_rfl) (by kernel_rfl) (by kernel_rfl) args w
theorem xElemV : IsExt Tryz.prog 160 (ReflectliteValue.method (ReflectliteValue.valueError "reflectlite.Value.Elem" 0) ReflectliteValue.elem) := fun args w => run_callFunc_extern (e := (ReflectliteValue.method (ReflectliteValue.valueError "reflectlite.Value.Elem" 0) ReflectliteValue.elem)) Tryz.func160 (by kernel_rfl) (by kernel_rfl) (by kernel_rfl) (by kernel_rfl) args w
theorem xSet : IsExt Tryz.prog 161 ReflectliteValue.set := fun args w => run_callFunc_extern (e := ReflectliteValue.set) Tryz.func161 (by kernel_rfl) (by kernel_rfl) (by kernel_rfl) (by kernel_rfl) args w
theorem mKind (h : Value) (w : World) : (Go.method (Tryz.prog.types.size + Made.depth) 249 (.agg #[h]) "Kind").run Tryz.prog w = .ok (194, h) w := by kernel_rfl
theorem mElem (h : Value) (w : World) : (Go.method (Tryz.prog.types.size + Made.depth) 249 (.agg #[h]) "Elem").run Tryz.prog w = .ok (208, .agg #[h]) w := by kernel_rfl
theorem mImplements (h : Value) (w : World) : (Go.method (Tryz.prog.types.size + Made.depth) 249 (.agg #[h]) "Implements").run Tryz.prog w = .ok (209, .agg #[h]) w := by kernel_rfl
theorem mAssignableTo (h : Value) (w : World) : (Go.method (Tryz.prog.types.size + Made.depth) 249 (.agg #[h]) "AssignableTo").run Tryz.prog w = .ok (206, .agg #[h]) w := by kernel_rfl
theorem mUnwrap (v : Value) (w : World) : (Go.method (Tryz.prog.types.size + Made.depth) 169 v "Unwrap").run Tryz.prog w = .ok (200, v) w := by kernel_rfl
theorem valueOfNP (t : Addr) (w : World) : (ReflectliteValue.unpack (.iface 173 (.pointer (some t)))).run Tryz.prog w = .ok (.agg #[hd 173, .pointer (some ⟨w.heap.size, 0, none⟩), .int .u64 150]) (w.alloc (.cells #[.pointer (some t)] 173)) := by kernel_rfl
theorem typeNP (a : Addr) (w : World) : ((ReflectliteValue.methodAny (ReflectliteValue.valueError "reflectlite.Value.Type" 0) (fun t _ _ _ => ReflectliteType.toType t)) #[.agg #[hd 173, .pointer (some a), .int .u64 150]]).run Tryz.prog w = .ok (rt 173) w := by kernel_rfl
theorem partsNP (a : Addr) (w : World) : (ReflectliteValue.parts (.agg #[hd 173, .pointer (some a), .int .u64 150])).run Tryz.prog w = .ok (some (173, a, 150)) w := by kernel_rfl
theorem valueOfFF (t : Addr) (w : World) : (ReflectliteValue.unpack (.iface 210 (.pointer (some t)))).run Tryz.prog w = .ok (.agg #[hd 210, .pointer (some ⟨w.heap.size, 0, none⟩), .int .u64 150]) (w.alloc (.cells #[.pointer (some t)] 210)) := by kernel_rfl
theorem typeFF (a : Addr) (w : World) : ((ReflectliteValue.methodAny (ReflectliteValue.valueError "reflectlite.Value.Type" 0) (fun t _ _ _ => ReflectliteType.toType t)) #[.agg #[hd 210, .pointer (some a), .int .u64 150]]).run Tryz.prog w = .ok (rt 210) w := by kernel_rfl
theorem partsFF (a : Addr) (w : World) : (ReflectliteValue.parts (.agg #[hd 210, .pointer (some a), .int .u64 150])).run Tryz.prog w = .ok (some (210, a, 150)) w := by kernel_rfl
theorem rlm (z : Sem Value) (f : TypeId → Addr → Nat → Nat → Sem Value) (v : Value) : ReflectliteValue.method z f #[v] = (do match ← ReflectliteValue.parts v with | none => z | some (t, a, fl) => f t a fl (fl % 32)) := rfl
theorem isNilNP (a p : Addr) (W : World) (ha : W.cell? a = some (.pointer (some p))) : ((ReflectliteValue.method (ReflectliteValue.valueError "reflectlite.Value.IsNil" 0) ReflectliteValue.isNil) #[.agg #[hd 173, .pointer (some a), .int .u64 150]]).run Tryz.prog W = .ok (.bool false) W := by
  rw [rlm]
  simp only [Sem.run_bind, partsNP, Result.andThen]
  simp [ReflectliteValue.isNil, loadVar, isAgg, underlying, Tryz.underlying173, ha, Result.andThen]
theorem isNilFF (a p : Addr) (W : World) (ha : W.cell? a = some (.pointer (some p))) : ((ReflectliteValue.method (ReflectliteValue.valueError "reflectlite.Value.IsNil" 0) ReflectliteValue.isNil) #[.agg #[hd 210, .pointer (some a), .int .u64 150]]).run Tryz.prog W = .ok (.bool false) W := by
  rw [rlm]
  simp only [Sem.run_bind, partsFF, Result.andThen]
  simp [ReflectliteValue.isNil, loadVar, isAgg, underlying, Tryz.underlying210, ha, Result.andThen]
theorem kindNP (w : World) : ((ReflectliteType.abiMethod fun t => do pure (.int .u8 (← Rtype.kind t))) #[hd 173]).run Tryz.prog w = .ok (.int .u8 22) w := by kernel_rfl
theorem kindFF (w : World) : ((ReflectliteType.abiMethod fun t => do pure (.int .u8 (← Rtype.kind t))) #[hd 210]).run Tryz.prog w = .ok (.int .u8 22) w := by kernel_rfl
theorem kindN (w : World) : ((ReflectliteType.abiMethod fun t => do pure (.int .u8 (← Rtype.kind t))) #[hd 99]).run Tryz.prog w = .ok (.int .u8 2) w := by kernel_rfl
theorem kindF (w : World) : ((ReflectliteType.abiMethod fun t => do pure (.int .u8 (← Rtype.kind t))) #[hd 169]).run Tryz.prog w = .ok (.int .u8 22) w := by kernel_rfl
theorem elemNP (w : World) : ((ReflectliteType.method ReflectliteType.elem) #[.agg #[hd 173]]).run Tryz.prog w = .ok (rt 99) w := by kernel_rfl
theorem elemOfNP (w : World) : (Rtype.elem? 173).run Tryz.prog w = .ok (some 99) w := by kernel_rfl
theorem elemFF (w : World) : ((ReflectliteType.method ReflectliteType.elem) #[.agg #[hd 210]]).run Tryz.prog w = .ok (rt 169) w := by kernel_rfl
theorem elemOfFF (w : World) : (Rtype.elem? 210).run Tryz.prog w = .ok (some 169) w := by kernel_rfl
theorem implementsN (w : World) : ((ReflectliteType.relation "Implements" ReflectliteType.implements_) #[.agg #[hd 99], errT]).run Tryz.prog w = .ok (.bool true) w := by kernel_rfl
theorem typeOfN (v : Value) (w : World) : (ReflectliteType.typeOf #[.iface 99 v]).run Tryz.prog w = .ok (rt 99) w := by kernel_rfl
theorem mkN (p : Addr) (w : World) : (ReflectliteValue.mk 99 p ReflectliteValue.flagAddr).run Tryz.prog w = .ok (.agg #[hd 99, .pointer (some p), .int .u64 386]) w := by kernel_rfl
theorem partsAN (a : Addr) (w : World) : (ReflectliteValue.parts (.agg #[hd 99, .pointer (some a), .int .u64 386])).run Tryz.prog w = .ok (some (99, a, 386)) w := by kernel_rfl
theorem partsBN (a : Addr) (w : World) : (ReflectliteValue.parts (.agg #[hd 99, .pointer (some a), .int .u64 130])).run Tryz.prog w = .ok (some (99, a, 130)) w := by kernel_rfl
theorem directN (w : World) : (Rtype.directlyAssignable 99 99).run Tryz.prog w = .ok true w := by kernel_rfl
theorem implementsF (w : World) : ((ReflectliteType.relation "Implements" ReflectliteType.implements_) #[.agg #[hd 169], errT]).run Tryz.prog w = .ok (.bool true) w := by kernel_rfl
theorem typeOfF (v : Value) (w : World) : (ReflectliteType.typeOf #[.iface 169 v]).run Tryz.prog w = .ok (rt 169) w := by kernel_rfl
theorem mkF (p : Addr) (w : World) : (ReflectliteValue.mk 169 p ReflectliteValue.flagAddr).run Tryz.prog w = .ok (.agg #[hd 169, .pointer (some p), .int .u64 406]) w := by kernel_rfl
theorem partsAF (a : Addr) (w : World) : (ReflectliteValue.parts (.agg #[hd 169, .pointer (some a), .int .u64 406])).run Tryz.prog w = .ok (some (169, a, 406)) w := by kernel_rfl
theorem partsBF (a : Addr) (w : World) : (ReflectliteValue.parts (.agg #[hd 169, .pointer (some a), .int .u64 150])).run Tryz.prog w = .ok (some (169, a, 150)) w := by kernel_rfl
theorem directF (w : World) : (Rtype.directlyAssignable 169 169).run Tryz.prog w = .ok true w := by kernel_rfl
theorem assignFN (w : World) : ((ReflectliteType.relation "AssignableTo" ReflectliteType.assignableTo) #[.agg #[hd 169], rt 99]).run Tryz.prog w = .ok (.bool false) w := by kernel_rfl
theorem assignNN (w : World) : ((ReflectliteType.relation "AssignableTo" ReflectliteType.assignableTo) #[.agg #[hd 99], rt 99]).run Tryz.prog w = .ok (.bool true) w := by kernel_rfl
theorem assignFF (w : World) : ((ReflectliteType.relation "AssignableTo" ReflectliteType.assignableTo) #[.agg #[hd 169], rt 169]).run Tryz.prog w = .ok (.bool true) w := by kernel_rfl
theorem assignNF (w : World) : ((ReflectliteType.relation "AssignableTo" ReflectliteType.assignableTo) #[.agg #[hd 99], rt 169]).run Tryz.prog w = .ok (.bool false) w := by kernel_rfl
theorem valueOfF (e : Addr) (w : World) : (ReflectliteValue.unpack (.iface 169 (.pointer (some e)))).run Tryz.prog w = .ok (.agg #[hd 169, .pointer (some ⟨w.heap.size, 0, none⟩), .int .u64 150]) (w.alloc (.cells #[.pointer (some e)] 169)) := by kernel_rfl
theorem valueOfN (c : Int) (w : World) : (ReflectliteValue.unpack (.iface 99 (.int .i64 c))).run Tryz.prog w = .ok (.agg #[hd 99, .pointer (some ⟨w.heap.size, 0, none⟩), .int .u64 130]) (w.alloc (.cells #[.int .i64 c] 99)) := by kernel_rfl
theorem elemVNP (a p : Addr) (W : World) (ha : W.cell? a = some (.pointer (some p))) : ((ReflectliteValue.method (ReflectliteValue.valueError "reflectlite.Value.Elem" 0) ReflectliteValue.elem) #[.agg #[hd 173, .pointer (some a), .int .u64 150]]).run Tryz.prog W = .ok (.agg #[hd 99, .pointer (some p), .int .u64 386]) W := by
  rw [rlm]
  simp only [Sem.run_bind, partsNP, Result.andThen]
  simp [ReflectliteValue.elem, loadVar, isAgg, underlying, Tryz.underlying173, ha, Result.andThen, elemOfNP, mkN]
theorem elemVFF (a p : Addr) (W : World) (ha : W.cell? a = some (.pointer (some p))) : ((ReflectliteValue.method (ReflectliteValue.valueError "reflectlite.Value.Elem" 0) ReflectliteValue.elem) #[.agg #[hd 210, .pointer (some a), .int .u64 150]]).run Tryz.prog W = .ok (.agg #[hd 169, .pointer (some p), .int .u64 406]) W := by
  rw [rlm]
  simp only [Sem.run_bind, partsFF, Result.andThen]
  simp [ReflectliteValue.elem, loadVar, isAgg, underlying, Tryz.underlying210, ha, Result.andThen, elemOfFF, mkF]
theorem rls (v x : Value) : ReflectliteValue.set #[v, x] = (do
    let (some (dst, a, fl), some (src, b, _)) := (← ReflectliteValue.parts v, ← ReflectliteValue.parts x)
      | unsupported (.noEntry "extern/(internal/reflectlite.Value).Set.zeroValue")
    if fl / ReflectliteValue.flagAddr % 2 == 0 then unsupported (.noEntry "extern/(internal/reflectlite.Value).Set.unaddressable")
    let val ← loadVar src b
    if ← Rtype.directlyAssignable dst src then storeVar dst a val
    else if ← Rtype.implements dst src then
      if (← Rtype.kind src) == 20 then
        match val with
        | .nilIface => unsupported (.noEntry "extern/reflectlite: a nil value of one interface type handed on as a value of another")
        | _ => storeVar dst a val
      else storeVar dst a (.iface src val)
    else panicString ("reflectlite.Set: value of type " ++ (← Rtype.spelt src) ++ " is not assignable to type " ++ (← Rtype.spelt dst))
    pure (.tuple #[])) := rfl
theorem setN (ta b : Addr) (c : Int) (old : Value) (W : World) (hb : W.cell? b = some (.int .i64 c)) (ht : W.cell? ta = some old) (hf : W.frozen? ta = false) :
    (ReflectliteValue.set #[.agg #[hd 99, .pointer (some ta), .int .u64 386], .agg #[hd 99, .pointer (some b), .int .u64 130]]).run Tryz.prog W = .ok (.tuple #[]) (W.setCell ta (.int .i64 c)) := by
  rw [rls]
  simp only [Sem.run_bind, partsAN, partsBN, Result.andThen]
  simp [ReflectliteValue.flagAddr, loadVar, isAgg, underlying, Tryz.underlying99, hb, Result.andThen, directN, storeVar, Value.cells, storeCells, Addr.add]
  rw [run_store Tryz.prog W ta _ _ (by rfl)]
  simp [ht, hf]
theorem setF (ta b : Addr) (c : Option Addr) (old : Value) (W : World) (hb : W.cell? b = some (.pointer c)) (ht : W.cell? ta = some old) (hf : W.frozen? ta = false) :
    (ReflectliteValue.set #[.agg #[hd 169, .pointer (some ta), .int .u64 406], .agg #[hd 169, .pointer (some b), .int .u64 150]]).run Tryz.prog W = .ok (.tuple #[]) (W.setCell ta (.pointer c)) := by
  rw [rls]
  simp only [Sem.run_bind, partsAF, partsBF, Result.andThen]
  simp [ReflectliteValue.flagAddr, loadVar, isAgg, underlying, Tryz.underlying169, hb, Result.andThen, directF, storeVar, Value.cells, storeCells, Addr.add]
  rw [run_store Tryz.prog W ta _ _ (by rfl)]
  simp [ht, hf]
theorem assertFIA (v : Value) (w : World) : (Instr.typeAssert (.iface 169 v) 32 254 true).run Tryz.prog w = .ok (.tuple #[.nilIface, .bool false]) w := run_typeAssert_lacksB Tryz.underlying254 (by kernel_rfl) (by kernel_rfl) v 32 w
theorem assertFIU (v : Value) (w : World) : (Instr.typeAssert (.iface 169 v) 32 257 true).run Tryz.prog w = .ok (.tuple #[.iface 169 v, .bool true]) w := run_typeAssert_hasB Tryz.underlying257 (by kernel_rfl) v 32 w
theorem assertNIA (v : Value) (w : World) : (Instr.typeAssert (.iface 99 v) 32 254 true).run Tryz.prog w = .ok (.tuple #[.nilIface, .bool false]) w := run_typeAssert_lacksB Tryz.underlying254 (by kernel_rfl) (by kernel_rfl) v 32 w
theorem assertNIU (v : Value) (w : World) : (Instr.typeAssert (.iface 99 v) 32 257 true).run Tryz.prog w = .ok (.tuple #[.nilIface, .bool false]) w := run_typeAssert_lacksB Tryz.underlying257 (by kernel_rfl) (by kernel_rfl) v 32 w
theorem assertNIL (v : Value) (w : World) : (Instr.typeAssert (.iface 99 v) 32 258 true).run Tryz.prog w = .ok (.tuple #[.nilIface, .bool false]) w := run_typeAssert_lacksB Tryz.underlying258 (by kernel_rfl) (by kernel_rfl) v 32 w
end Go.Proofs.YtanjfjiaheghcaaGreatDoor
/- Contracts of functions of the given program, and plain laws on what they compute: parts of the proofs of laws. -/

namespace Go.Proofs.YtanjfjiaheghcaaGreatDoor
open Go Go.GL Go.Extern

/-- the type of errors lies where errors.As looks for it -/
def ErrT : Assn := cellAt 0 0 errT
theorem up_ErrT : Up ErrT := up_cellAt _ _ _
theorem cell_of_blk0 {L : List Assn} {w : World} {b : Nat} {c : List Value} {T : TypeId} {v : Value} (s : Sat L w) (m : blk b c T ∈ L) (h : c[0]? = some v) : w.cell? ⟨b, 0, none⟩ = some v :=
  cell_of_cellAt ((Ent.blk m h) _ s)
set_option maxRecDepth 10000 in
theorem as_nil (v : Value) : RO G 94 [.nilIface, v] (fun _ => True) (.bool false) := by
  refine RO.enter Tryz.func94 rfl (by decide) rfl Tryz.ntmps94 rfl (fun A _ hA => ?_) (fun _ _ _ h => h)
  repeat (first | refine GO ?_ | refine NW fun _ => ?_)
  exact ret1 rfl ⟨rfl, MM⟩
set_option maxHeartbeats 4000000 in
set_option maxRecDepth 10000 in
theorem asF_hit (b p q : Nat) (old : Value) :
    Triple G 138 [.iface 169 (.pointer (some ⟨b, 0, none⟩)), .iface 210 (.pointer (some ⟨p, 0, none⟩)), .agg #[hd 210, .pointer (some ⟨q, 0, none⟩), .int .u64 150], rt 169] [blk p [old] 169, blk q [.pointer (some ⟨p, 0, none⟩)] 210] (fun v M => v = .bool true ∧ M = [blk p [.pointer (some ⟨b, 0, none⟩)] 169]) := by
  refine Triple.enter Tryz.func138 rfl (by decide) rfl Tryz.ntmps138 rfl (fun X => ?_)
  repeat (first | refine GO ?_ | refine NW fun _ => ?_)
  rename_i bx
  refine WC.loop (σ := Unit) (fun _ => True) (fun _ => [(0, .val (.iface 169 (.pointer (some ⟨b, 0, none⟩)))), (1, .val (.iface 210 (.pointer (some ⟨p, 0, none⟩)))), (3, .val (rt 169)), (6, .val (.pointer (some ⟨bx, 0, none⟩))), (8, .val (.bool false))])
    (fun _ => [blk bx [hd 210, .pointer (some ⟨q, 0, none⟩), .int .u64 150] 214, blk p [old] 169, blk q [.pointer (some ⟨p, 0, none⟩)] 210, X]) (fun _ => 0) () trivial ⟨rfl, rfl, rfl, rfl, rfl, trivial⟩ II ?_
  rintro _ _
  repeat (first | refine GD ?_ | refine NW fun _ => ?_)
  refine WL.step rfl (OP.extP (.call xTypeOf rfl rfl) (fun w _ => typeOfF _ w) rfl rfl ?_)
  repeat (first | refine GD ?_ | refine NW fun _ => ?_)
  refine WL.step rfl (OP.extP (.inv xAssignableTo rfl rfl rfl (fun w => mAssignableTo _ w)) (fun w _ => assignFF w) rfl rfl ?_)
  repeat (first | refine GD ?_ | refine NW fun _ => ?_)
  refine WL.step rfl (OP.extP (.call xElemV rfl rfl) (fun w s => elemVFF _ ⟨p, 0, none⟩ w (cell_of_blk0 (b := q) s MM rfl)) rfl rfl ?_)
  repeat (first | refine GD ?_ | refine NW fun _ => ?_)
  refine WL.step rfl (OP.extNew (mk := (fun n => .agg #[hd 169, .pointer (some ⟨n, 0, none⟩), .int .u64 150])) (.call xValueOf rfl rfl) (fun w _ => valueOfF _ w) rfl rfl (fun q2 => ?_))
  repeat (first | refine GD ?_ | refine NW fun _ => ?_)
  refine WL.step rfl (OP.extSet (.call xSet rfl rfl) (fun w s => setF ⟨p, 0, none⟩ ⟨q2, 0, none⟩ (some ⟨b, 0, none⟩) old w (cell_of_blk0 (b := q2) s MM rfl) (cell_of_blk0 (b := p) s MM rfl) (Sat.notFrozen (b := p) (c := [old]) (T := 169) s MM (Nat.zero_lt_succ _))) (by repeat (first | exact Upd.here _ _ _ _ _ | apply Upd.there)) rfl rfl ?_)
  repeat (first | refine GD ?_ | refine NW fun _ => ?_)
  exact ret1 rfl ⟨_, ⟨rfl, rfl⟩, II⟩
set_option maxHeartbeats 4000000 in
set_option maxRecDepth 10000 in
theorem asF_miss (p q : Nat) (c : Int) :
    Triple G 138 [.iface 99 (.int .i64 c), .iface 210 (.pointer (some ⟨p, 0, none⟩)), .agg #[hd 210, .pointer (some ⟨q, 0, none⟩), .int .u64 150], rt 169] [] (fun v M => v = .bool false ∧ M = []) := by
  refine Triple.enter Tryz.func138 rfl (by decide) rfl Tryz.ntmps138 rfl (fun X => ?_)
  repeat (first | refine GO ?_ | refine NW fun _ => ?_)
  rename_i bx
  refine WC.loop (σ := Unit) (fun _ => True) (fun _ => [(0, .val (.iface 99 (.int .i64 c))), (1, .val (.iface 210 (.pointer (some ⟨p, 0, none⟩)))), (3, .val (rt 169)), (6, .val (.pointer (some ⟨bx, 0, none⟩))), (8, .val (.bool false))])
    (fun _ => [X]) (fun _ => 0) () trivial ⟨rfl, rfl, rfl, rfl, rfl, trivial⟩ II ?_
  rintro _ _
  repeat (first | refine GD ?_ | refine NW fun _ => ?_)
  refine WL.step rfl (OP.extP (.call xTypeOf rfl rfl) (fun w _ => typeOfN _ w) rfl rfl ?_)
  repeat (first | refine GD ?_ | refine NW fun _ => ?_)
  refine WL.step rfl (OP.extP (.inv xAssignableTo rfl rfl rfl (fun w => mAssignableTo _ w)) (fun w _ => assignNF w) rfl rfl ?_)
  repeat (first | refine GD ?_ | refine NW fun _ => ?_)
  refine WL.step rfl (OP.assert rfl rfl (fun w => assertNIA _ w) rfl rfl ?_)
  repeat (first | refine GD ?_ | refine NW fun _ => ?_)
  refine WL.step rfl (OP.assert rfl rfl (fun w => assertNIU _ w) rfl rfl ?_)
  repeat (first | refine GD ?_ | refine NW fun _ => ?_)
  refine WL.step rfl (OP.assert rfl rfl (fun w => assertNIL _ w) rfl rfl ?_)
  repeat (first | refine GD ?_ | refine NW fun _ => ?_)
  exact ret1 rfl ⟨_, ⟨rfl, rfl⟩, II⟩
set_option maxHeartbeats 4000000 in
set_option maxRecDepth 10000 in
theorem as_faults (b p : Nat) (old : Value) (A : Assn) (hu : Up A) (hA : ∀ h, A h → ErrT h) :
    Triple G 94 [.iface 169 (.pointer (some ⟨b, 0, none⟩)), .iface 210 (.pointer (some ⟨p, 0, none⟩))] ([blk p [old] 169, A]) (fun v M => v = .bool true ∧ M = [blk p [.pointer (some ⟨b, 0, none⟩)] 169, A]) := by
  refine Triple.enter Tryz.func94 rfl (by decide) rfl Tryz.ntmps94 rfl (fun F => ?_)
  repeat (first | refine GO ?_ | refine NW fun _ => ?_)
  refine WL.step rfl (OP.extNew (mk := fun n => .agg #[hd 210, .pointer (some ⟨n, 0, none⟩), .int .u64 150]) (.call xValueOf rfl rfl) (fun w _ => valueOfFF _ w) rfl rfl (fun q => ?_))
  repeat (first | refine GO ?_ | refine NW fun _ => ?_)
  refine WL.step rfl (OP.extP (.call xType rfl rfl) (fun w _ => typeFF _ w) rfl rfl ?_)
  repeat (first | refine GO ?_ | refine NW fun _ => ?_)
  refine WL.step rfl (OP.extP (.inv xKind rfl rfl rfl (fun w => mKind _ w)) (fun w _ => kindFF w) rfl rfl ?_)
  repeat (first | refine GO ?_ | refine NW fun _ => ?_)
  refine WL.guardT rfl rfl rfl rfl (OP.extP (.call xIsNil rfl rfl) (fun w s => isNilFF _ ⟨p, 0, none⟩ w (cell_of_blk0 (b := q) s MM rfl)) rfl rfl ?_)
  repeat (first | refine GO ?_ | refine NW fun _ => ?_)
  refine WL.step rfl (OP.extP (.inv xElem rfl rfl rfl (fun w => mElem _ w)) (fun w _ => elemFF w) rfl rfl ?_)
  repeat (first | refine GO ?_ | refine NW fun _ => ?_)
  refine WL.step rfl (OP.extP (.inv xKind rfl rfl rfl (fun w => mKind _ w)) (fun w _ => kindF w) rfl rfl ?_)
  repeat (first | refine GO ?_ | refine NW fun _ => ?_)
  refine WL.guardT rfl rfl rfl rfl (OP.load1 (v := errT) rfl rfl rfl rfl (Ent.mem (A := A) MM hu hA) rfl rfl ?_)
  repeat (first | refine GO ?_ | refine NW fun _ => ?_)
  refine WL.guardT rfl rfl rfl rfl (OP.extP (.inv xImplements rfl rfl rfl (fun w => mImplements _ w)) (fun w _ => implementsF w) rfl rfl ?_)
  repeat (first | refine GO ?_ | refine NW fun _ => ?_)
  refine WL.step rfl (OP.call (pre := [blk p [old] 169, blk q [.pointer (some ⟨p, 0, none⟩)] 210]) rfl rfl (asF_hit b p q old) PS rfl rfl ?_)
  rintro _ _ ⟨rfl, rfl⟩
  repeat (first | refine GO ?_ | refine NW fun _ => ?_)
  exact ret1 rfl ⟨_, ⟨rfl, rfl⟩, II⟩
set_option maxHeartbeats 4000000 in
set_option maxRecDepth 10000 in
theorem as_faultsN (p : Nat) (c : Int) (old : Value) (A : Assn) (hu : Up A) (hA : ∀ h, A h → ErrT h) :
    Triple G 94 [.iface 99 (.int .i64 c), .iface 210 (.pointer (some ⟨p, 0, none⟩))] ([blk p [old] 169, A]) (fun v M => v = .bool false ∧ M = [blk p [old] 169, A]) := by
  refine Triple.enter Tryz.func94 rfl (by decide) rfl Tryz.ntmps94 rfl (fun F => ?_)
  repeat (first | refine GO ?_ | refine NW fun _ => ?_)
  refine WL.step rfl (OP.extNew (mk := fun n => .agg #[hd 210, .pointer (some ⟨n, 0, none⟩), .int .u64 150]) (.call xValueOf rfl rfl) (fun w _ => valueOfFF _ w) rfl rfl (fun q => ?_))
  repeat (first | refine GO ?_ | refine NW fun _ => ?_)
  refine WL.step rfl (OP.extP (.call xType rfl rfl) (fun w _ => typeFF _ w) rfl rfl ?_)
  repeat (first | refine GO ?_ | refine NW fun _ => ?_)
  refine WL.step rfl (OP.extP (.inv xKind rfl rfl rfl (fun w => mKind _ w)) (fun w _ => kindFF w) rfl rfl ?_)
  repeat (first | refine GO ?_ | refine NW fun _ => ?_)
  refine WL.guardT rfl rfl rfl rfl (OP.extP (.call xIsNil rfl rfl) (fun w s => isNilFF _ ⟨p, 0, none⟩ w (cell_of_blk0 (b := q) s MM rfl)) rfl rfl ?_)
  repeat (first | refine GO ?_ | refine NW fun _ => ?_)
  refine WL.step rfl (OP.extP (.inv xElem rfl rfl rfl (fun w => mElem _ w)) (fun w _ => elemFF w) rfl rfl ?_)
  repeat (first | refine GO ?_ | refine NW fun _ => ?_)
  refine WL.step rfl (OP.extP (.inv xKind rfl rfl rfl (fun w => mKind _ w)) (fun w _ => kindF w) rfl rfl ?_)
  repeat (first | refine GO ?_ | refine NW fun _ => ?_)
  refine WL.guardT rfl rfl rfl rfl (OP.load1 (v := errT) rfl rfl rfl rfl (Ent.mem (A := A) MM hu hA) rfl rfl ?_)
  repeat (first | refine GO ?_ | refine NW fun _ => ?_)
  refine WL.guardT rfl rfl rfl rfl (OP.extP (.inv xImplements rfl rfl rfl (fun w => mImplements _ w)) (fun w _ => implementsF w) rfl rfl ?_)
  repeat (first | refine GO ?_ | refine NW fun _ => ?_)
  refine WL.step rfl (OP.call (pre := []) (F := _) rfl rfl (asF_miss p q c) (Imp.refl _) rfl rfl ?_)
  rintro _ _ ⟨rfl, rfl⟩
  repeat (first | refine GO ?_ | refine NW fun _ => ?_)
  exact ret1 rfl ⟨_, ⟨rfl, rfl⟩, II⟩
end Go.Proofs.YtanjfjiaheghcaaGreatDoor
/- Contracts of functions of the given program, and plain laws on what they compute: parts of the proofs of laws. -/

namespace Go.Proofs.YtanjfjiaheghcaaGreatDoor
open Go Go.GL

set_option maxRecDepth 10000 in
theorem code_nil : RO G 47 [.nilIface] (fun _ => True) (.int .i64 0) := by
  refine RO.enter Tryz.func47 rfl (by decide) rfl Tryz.ntmps47 rfl (fun A hu hA => ?_) (fun _ _ _ h => h)
  repeat (first | refine GO ?_ | refine NW fun _ => ?_)
  refine WL.step rfl (OP.callRO rfl rfl (as_nil _) (fun _ _ => trivial) rfl rfl ?_)
  repeat (first | refine GO ?_ | refine NW fun _ => ?_)
  exact ret1 rfl ⟨rfl, MM⟩
def Ptrs (l : List Value) (v : Value) (E : List Assn) : Prop := ∃ a cap, v = .slice a l.length cap ∧ E = [ownS a l.length cap 169 1 l]
set_option maxRecDepth 10000 in
theorem faults_nil : RT G 93 [.nilIface] (fun _ => True) (fun v E => v = .slice none 0 0 ∧ E = []) := by
  refine RT.enter Tryz.func93 rfl (by decide) rfl Tryz.ntmps93 rfl (fun A hu hA => ?_)
  repeat (first | refine GO ?_ | refine NW fun _ => ?_)
  rename_i p
  refine WC.loop (σ := Unit) (fun _ => True) (fun _ => [(0, .val .nilIface), (3, .val (.slice none 0 0)), (4, .val (.pointer (some ⟨p, 0, none⟩)))]) (fun _ => [A]) (fun _ => 0) () trivial ⟨rfl, rfl, rfl, trivial⟩ II ?_
  rintro _ _
  repeat (first | refine GO ?_ | refine NW fun _ => ?_)
  refine WL.step rfl (OP.callRO rfl rfl (as_nil _) (fun _ _ => trivial) rfl rfl ?_)
  repeat (first | refine GO ?_ | refine NW fun _ => ?_)
  exact ret1 rfl ⟨[], ⟨rfl, rfl⟩, II⟩
set_option maxHeartbeats 1000000 in
set_option maxRecDepth 10000 in
theorem first_nil (op : ByteArray) : RO G 46 [.nilIface, .string op] (fun _ => True) (.tuple #[.int .i64 0, .bool false]) := by
  refine RO.enter Tryz.func46 rfl (by decide) rfl Tryz.ntmps46 rfl (fun A hu hA => ?_) (fun _ _ _ h => h)
  repeat (first | refine GO ?_ | refine NW fun _ => ?_)
  refine WL.step rfl (OP.callRT rfl rfl faults_nil (fun _ _ => trivial) rfl rfl ?_)
  rintro v E ⟨rfl, rfl⟩
  repeat (first | refine GO ?_ | refine NW fun _ => ?_)
  refine WC.loop (σ := Unit) (fun _ => True) (fun _ => [(10, .val (.int .i64 0)), (11, .val (.int .i64 0))]) (fun _ => [A]) (fun _ => 0) () trivial ⟨rfl, rfl, trivial⟩ II ?_
  rintro _ _
  repeat (first | refine GD ?_ | refine NW fun _ => ?_)
  exact ret2 rfl rfl ⟨rfl, MM⟩
end Go.Proofs.YtanjfjiaheghcaaGreatDoor
/- Contracts of functions of the given program, and plain laws on what they compute: parts of the proofs of laws. -/

namespace Go.Proofs.YtanjfjiaheghcaaGreatDoor
open Go Go.GL

def chainE (ch : Chain) (c : Int) : Assn := fun h => ErrT h ∧ chainR ch c h
theorem up_chainE (ch : Chain) (c : Int) : Up (chainE ch c) := up_and up_ErrT (up_chainR ch c)
set_option maxRecDepth 10000 in
theorem unwrapC_ro (b : Nat) (op : ByteArray) (at_ : Int) (v : Value) : RO G 200 [.pointer (some ⟨b, 0, none⟩)] (cellsAt b 0 [.string op, .int .i64 at_, v]) v := by
  refine RO.enter Tryz.func200 rfl (by decide) rfl Tryz.ntmps200 rfl (fun A hu hA => ?_) (up_cellsAt _ _ _)
  repeat (first | refine GO ?_ | refine NW fun _ => ?_)
  refine WL.step rfl (OP.load1 (v := v) rfl rfl rfl rfl (Ent.mem (A := A) MM hu (fun h x => cellsAt_one (i := 2) (hA h x) rfl)) rfl rfl ?_)
  repeat (first | refine GO ?_ | refine NW fun _ => ?_)
  exact ret1 rfl ⟨rfl, MM⟩
set_option maxHeartbeats 4000000 in
set_option maxRecDepth 10000 in
theorem asN_chain (p q : Nat) (c : Int) (old : Value) (A : Assn) (hu : Up A) (ch : Chain) (hA : ∀ h, A h → chainR ch c h) :
    Triple G 138 [valOf ch c, .iface 173 (.pointer (some ⟨p, 0, none⟩)), .agg #[hd 173, .pointer (some ⟨q, 0, none⟩), .int .u64 150], rt 99] [blk p [old] 99, blk q [.pointer (some ⟨p, 0, none⟩)] 173, A] (fun v M => v = .bool true ∧ M = [blk p [.int .i64 c] 99, A]) := by
  refine Triple.enter Tryz.func138 rfl (by decide) rfl Tryz.ntmps138 rfl (fun X => ?_)
  repeat (first | refine GO ?_ | refine NW fun _ => ?_)
  rename_i bx
  refine WC.loop (σ := Chain) (fun s => ∀ h, A h → chainR s c h) (fun s => [(0, .val (valOf s c)), (1, .val (.iface 173 (.pointer (some ⟨p, 0, none⟩)))), (3, .val (rt 99)), (6, .val (.pointer (some ⟨bx, 0, none⟩))), (8, .val (.bool false))])
    (fun _ => [blk bx [hd 173, .pointer (some ⟨q, 0, none⟩), .int .u64 150] 214, blk p [old] 99, blk q [.pointer (some ⟨p, 0, none⟩)] 173, A, X]) (fun s => s.length) ch hA ⟨rfl, rfl, rfl, rfl, rfl, trivial⟩ II ?_
  rintro s hs
  cases s with
  | nil =>
    repeat (first | refine GD ?_ | refine NW fun _ => ?_)
    refine WL.step rfl (OP.extP (.call xTypeOf rfl rfl) (fun w _ => typeOfN _ w) rfl rfl ?_)
    repeat (first | refine GD ?_ | refine NW fun _ => ?_)
    refine WL.step rfl (OP.extP (.inv xAssignableTo rfl rfl rfl (fun w => mAssignableTo _ w)) (fun w _ => assignNN w) rfl rfl ?_)
    repeat (first | refine GD ?_ | refine NW fun _ => ?_)
    refine WL.step rfl (OP.extP (.call xElemV rfl rfl) (fun w s => elemVNP _ ⟨p, 0, none⟩ w (cell_of_blk0 (b := q) s MM rfl)) rfl rfl ?_)
    repeat (first | refine GD ?_ | refine NW fun _ => ?_)
    refine WL.step rfl (OP.extNew (mk := (fun n => .agg #[hd 99, .pointer (some ⟨n, 0, none⟩), .int .u64 130])) (.call xValueOf rfl rfl) (fun w _ => valueOfN _ w) rfl rfl (fun q2 => ?_))
    repeat (first | refine GD ?_ | refine NW fun _ => ?_)
    refine WL.step rfl (OP.extSet (.call xSet rfl rfl) (fun w s => setN ⟨p, 0, none⟩ ⟨q2, 0, none⟩ c old w (cell_of_blk0 (b := q2) s MM rfl) (cell_of_blk0 (b := p) s MM rfl) (Sat.notFrozen (b := p) (c := [old]) (T := 99) s MM (Nat.zero_lt_succ _))) (by repeat (first | exact Upd.here _ _ _ _ _ | apply Upd.there)) rfl rfl ?_)
    repeat (first | refine GD ?_ | refine NW fun _ => ?_)
    exact ret1 rfl ⟨_, ⟨rfl, rfl⟩, II⟩
  | cons x r =>
    repeat (first | refine GD ?_ | refine NW fun _ => ?_)
    refine WL.step rfl (OP.extP (.call xTypeOf rfl rfl) (fun w _ => typeOfF _ w) rfl rfl ?_)
    repeat (first | refine GD ?_ | refine NW fun _ => ?_)
    refine WL.step rfl (OP.extP (.inv xAssignableTo rfl rfl rfl (fun w => mAssignableTo _ w)) (fun w _ => assignFN w) rfl rfl ?_)
    repeat (first | refine GD ?_ | refine NW fun _ => ?_)
    refine WL.step rfl (OP.assert rfl rfl (fun w => assertFIA _ w) rfl rfl ?_)
    repeat (first | refine GD ?_ | refine NW fun _ => ?_)
    refine WL.step rfl (OP.assert rfl rfl (fun w => assertFIU _ w) rfl rfl ?_)
    repeat (first | refine GD ?_ | refine NW fun _ => ?_)
    refine WL.step rfl (OP.invRO rfl rfl (fun w => mUnwrap _ w) (unwrapC_ro x.1 x.2.1 x.2.2 (valOf r c)) (Ent.mem (A := A) MM hu (fun h a => (hs h a).1)) rfl rfl ?_)
    cases r with
    | nil =>
      repeat (first | refine GD ?_ | refine NW fun _ => ?_)
      exact ⟨[], (fun h a => (hs h a).2), by simp, ⟨rfl, rfl, rfl, rfl, rfl, trivial⟩, II⟩
    | cons y r =>
      repeat (first | refine GD ?_ | refine NW fun _ => ?_)
      exact ⟨y :: r, (fun h a => (hs h a).2), by simp, ⟨rfl, rfl, rfl, rfl, rfl, trivial⟩, II⟩
set_option maxHeartbeats 4000000 in
set_option maxRecDepth 10000 in
theorem as_codeC (p : Nat) (c : Int) (old : Value) (A : Assn) (hu : Up A) (ch : Chain) (hA : ∀ h, A h → chainE ch c h) :
    Triple G 94 [valOf ch c, .iface 173 (.pointer (some ⟨p, 0, none⟩))] ([blk p [old] 99, A]) (fun v M => v = .bool true ∧ M = [blk p [.int .i64 c] 99, A]) := by
  refine Triple.enter Tryz.func94 rfl (by decide) rfl Tryz.ntmps94 rfl (fun F => ?_)
  have hE : ∀ h, A h → ErrT h := fun h a => (hA h a).1
  have hN := fun p q old => asN_chain p q c old A hu ch (fun h a => (hA h a).2)
  cases ch with
  | nil =>
    repeat (first | refine GO ?_ | refine NW fun _ => ?_)
    refine WL.step rfl (OP.extNew (mk := fun n => .agg #[hd 173, .pointer (some ⟨n, 0, none⟩), .int .u64 150]) (.call xValueOf rfl rfl) (fun w _ => valueOfNP _ w) rfl rfl (fun q => ?_))
    repeat (first | refine GO ?_ | refine NW fun _ => ?_)
    refine WL.step rfl (OP.extP (.call xType rfl rfl) (fun w _ => typeNP _ w) rfl rfl ?_)
    repeat (first | refine GO ?_ | refine NW fun _ => ?_)
    refine WL.step rfl (OP.extP (.inv xKind rfl rfl rfl (fun w => mKind _ w)) (fun w _ => kindNP w) rfl rfl ?_)
    repeat (first | refine GO ?_ | refine NW fun _ => ?_)
    refine WL.guardT rfl rfl rfl rfl (OP.extP (.call xIsNil rfl rfl) (fun w s => isNilNP _ ⟨p, 0, none⟩ w (cell_of_blk0 (b := q) s MM rfl)) rfl rfl ?_)
    repeat (first | refine GO ?_ | refine NW fun _ => ?_)
    refine WL.step rfl (OP.extP (.inv xElem rfl rfl rfl (fun w => mElem _ w)) (fun w _ => elemNP w) rfl rfl ?_)
    repeat (first | refine GO ?_ | refine NW fun _ => ?_)
    refine WL.step rfl (OP.extP (.inv xKind rfl rfl rfl (fun w => mKind _ w)) (fun w _ => kindN w) rfl rfl ?_)
    repeat (first | refine GO ?_ | refine NW fun _ => ?_)
    refine WL.guardT rfl rfl rfl rfl (OP.load1 (v := errT) rfl rfl rfl rfl (Ent.mem (A := A) MM hu hE) rfl rfl ?_)
    repeat (first | refine GO ?_ | refine NW fun _ => ?_)
    refine WL.guardT rfl rfl rfl rfl (OP.extP (.inv xImplements rfl rfl rfl (fun w => mImplements _ w)) (fun w _ => implementsN w) rfl rfl ?_)
    repeat (first | refine GO ?_ | refine NW fun _ => ?_)
    refine WL.step rfl (OP.call (pre := [blk p [old] 99, blk q [.pointer (some ⟨p, 0, none⟩)] 173, A]) rfl rfl (hN p q old) PS rfl rfl ?_)
    rintro _ _ ⟨rfl, rfl⟩
    repeat (first | refine GO ?_ | refine NW fun _ => ?_)
    exact ret1 rfl ⟨_, ⟨rfl, rfl⟩, II⟩
  | cons x r =>
    repeat (first | refine GO ?_ | refine NW fun _ => ?_)
    refine WL.step rfl (OP.extNew (mk := fun n => .agg #[hd 173, .pointer (some ⟨n, 0, none⟩), .int .u64 150]) (.call xValueOf rfl rfl) (fun w _ => valueOfNP _ w) rfl rfl (fun q => ?_))
    repeat (first | refine GO ?_ | refine NW fun _ => ?_)
    refine WL.step rfl (OP.extP (.call xType rfl rfl) (fun w _ => typeNP _ w) rfl rfl ?_)
    repeat (first | refine GO ?_ | refine NW fun _ => ?_)
    refine WL.step rfl (OP.extP (.inv xKind rfl rfl rfl (fun w => mKind _ w)) (fun w _ => kindNP w) rfl rfl ?_)
    repeat (first | refine GO ?_ | refine NW fun _ => ?_)
    refine WL.guardT rfl rfl rfl rfl (OP.extP (.call xIsNil rfl rfl) (fun w s => isNilNP _ ⟨p, 0, none⟩ w (cell_of_blk0 (b := q) s MM rfl)) rfl rfl ?_)
    repeat (first | refine GO ?_ | refine NW fun _ => ?_)
    refine WL.step rfl (OP.extP (.inv xElem rfl rfl rfl (fun w => mElem _ w)) (fun w _ => elemNP w) rfl rfl ?_)
    repeat (first | refine GO ?_ | refine NW fun _ => ?_)
    refine WL.step rfl (OP.extP (.inv xKind rfl rfl rfl (fun w => mKind _ w)) (fun w _ => kindN w) rfl rfl ?_)
    repeat (first | refine GO ?_ | refine NW fun _ => ?_)
    refine WL.guardT rfl rfl rfl rfl (OP.load1 (v := errT) rfl rfl rfl rfl (Ent.mem (A := A) MM hu hE) rfl rfl ?_)
    repeat (first | refine GO ?_ | refine NW fun _ => ?_)
    refine WL.guardT rfl rfl rfl rfl (OP.extP (.inv xImplements rfl rfl rfl (fun w => mImplements _ w)) (fun w _ => implementsN w) rfl rfl ?_)
    repeat (first | refine GO ?_ | refine NW fun _ => ?_)
    refine WL.step rfl (OP.call (pre := [blk p [old] 99, blk q [.pointer (some ⟨p, 0, none⟩)] 173, A]) rfl rfl (hN p q old) PS rfl rfl ?_)
    rintro _ _ ⟨rfl, rfl⟩
    repeat (first | refine GO ?_ | refine NW fun _ => ?_)
    exact ret1 rfl ⟨_, ⟨rfl, rfl⟩, II⟩
set_option maxRecDepth 10000 in
theorem codeC (ch : Chain) (c : Int) : RO G 47 [valOf ch c] (chainE ch c) (.int .i64 c) := by
  refine RO.enter Tryz.func47 rfl (by decide) rfl Tryz.ntmps47 rfl (fun A hu hA => ?_) (up_chainE _ _)
  repeat (first | refine GO ?_ | refine NW fun _ => ?_)
  rename_i p
  refine WL.step rfl (OP.call (pre := [blk p [.int .i64 0] 99, A]) rfl rfl (as_codeC p c (.int .i64 0) A hu ch hA) PS rfl rfl ?_)
  rintro _ _ ⟨rfl, rfl⟩
  repeat (first | refine GO ?_ | refine NW fun _ => ?_)
  exact ret1 rfl ⟨rfl, MM⟩
def ptrOf (x : Nat × ByteArray × Int) : Value := .pointer (some ⟨x.1, 0, none⟩)
set_option maxHeartbeats 1000000 in
set_option maxRecDepth 10000 in
theorem faultsC (ch : Chain) (c : Int) (hl : ch.length < 1000) : RT G 93 [valOf ch c] (chainE ch c) (Ptrs (ch.map ptrOf)) := by
  refine RT.enter Tryz.func93 rfl (by decide) rfl Tryz.ntmps93 rfl (fun A hu hA => ?_)
  repeat (first | refine GO ?_ | refine NW fun _ => ?_)
  rename_i p
  refine WC.imp (Imp.nilS 169 1) ?_
  refine WC.loop (σ := Chain × Chain × Value × Option Addr × Nat) (fun s => s.1 ++ s.2.1 = ch ∧ ∀ h, A h → chainR s.2.1 c h)
    (fun s => [(0, .val (valOf s.2.1 c)), (3, .val (.slice s.2.2.2.1 s.1.length s.2.2.2.2)), (4, .val (.pointer (some ⟨p, 0, none⟩)))])
    (fun s => [blk p [s.2.2.1] 169, ownS s.2.2.2.1 s.1.length s.2.2.2.2 169 1 (s.1.map ptrOf), A])
    (fun s => s.2.1.length) ([], ch, .pointer none, none, 0) ⟨rfl, fun h a => (hA h a).2⟩ ⟨rfl, rfl, rfl, trivial⟩ II ?_
  rintro ⟨d, r, old, a, cap⟩ ⟨hd, hr⟩
  dsimp only at hd hr ⊢
  have hE : ∀ h, A h → ErrT h := fun h a => (hA h a).1
  cases r with
  | nil =>
    rw [List.append_nil] at hd
    subst hd
    repeat (first | refine GO ?_ | refine NW fun _ => ?_)
    refine WL.step rfl (OP.call (pre := [blk p [old] 169, A]) rfl rfl (as_faultsN p c _ A hu hE) PS rfl rfl ?_)
    rintro _ _ ⟨rfl, rfl⟩
    repeat (first | refine GO ?_ | refine NW fun _ => ?_)
    exact ret1 rfl ⟨[_], ⟨a, cap, by rw [List.length_map], by rw [List.length_map]⟩, II⟩
  | cons x r =>
    have hdl : d.length < 1000 := by rw [← hd, List.length_append] at hl; omega
    repeat (first | refine GO ?_ | refine NW fun _ => ?_)
    refine WL.step rfl (OP.call (pre := [blk p [old] 169, A]) rfl rfl (as_faults x.1 p _ A hu hE) PS rfl rfl ?_)
    rintro _ _ ⟨rfl, rfl⟩
    repeat (first | refine GO ?_ | refine NW fun _ => ?_)
    refine WL.step rfl (OP.append rfl rfl rfl rfl rfl rfl rfl rfl rfl P1 (Ent.own MM) rfl (by omega) (by omega) rfl rfl (fun a2 cap2 => ?_))
    repeat (first | refine GO ?_ | refine NW fun _ => ?_)
    refine WL.step rfl (OP.load1 (v := valOf r c) rfl rfl rfl rfl (Ent.mem (A := A) MM hu (fun h y => cellsAt_one (i := 2) (hr h y).1 rfl)) rfl rfl ?_)
    repeat (first | refine GO ?_ | refine NW fun _ => ?_)
    exact ⟨(d ++ [x], r, .pointer (some ⟨x.1, 0, none⟩), a2, cap2), ⟨by rw [← hd]; simp, fun h a => (hr h a).2⟩, by dsimp only; simp, ⟨rfl, by rw [List.length_append]; rfl, rfl, trivial⟩, by rw [List.length_append, List.map_append]; exact II⟩
/-- the outermost one of a name -/
def firstC (op : ByteArray) : List (ByteArray × Int) → Option Int
  | [] => none
  | x :: r => if x.1 = op then some x.2 else firstC op r
def firstV (o : Option Int) : Value := match o with
  | some n => .tuple #[.int .i64 n, .bool true]
  | none => .tuple #[.int .i64 0, .bool false]
theorem chainR_get : ∀ {ch : Chain} {c : Int} {h : Hp}, chainR ch c h → ∀ k (hk : k < ch.length), ∃ v, cellsAt ch[k].1 0 [.string ch[k].2.1, .int .i64 ch[k].2.2, v] h
  | x :: r, c, h, hh, 0, _ => ⟨_, hh.1⟩
  | x :: r, c, h, hh, k + 1, hk => chainR_get hh.2 k (by simpa using hk)
theorem cellsAt_pre {b off : Nat} {l m : List Value} {h : Hp} (x : cellsAt b off (l ++ m) h) : cellsAt b off l h := by
  obtain ⟨c, T, fr, hb, hc⟩ := x
  exact ⟨c, T, fr, hb, fun i v hi => hc i v (by rw [List.getElem?_append_left (List.getElem?_eq_some_iff.1 hi).1]; exact hi)⟩
set_option maxHeartbeats 1000000 in
set_option maxRecDepth 10000 in
theorem firstC_ro (ch : Chain) (c : Int) (op : ByteArray) (hl : ch.length < 1000) : RO G 46 [valOf ch c, .string op] (chainE ch c) (firstV (firstC op (ch.map Prod.snd))) := by
  refine RO.enter Tryz.func46 rfl (by decide) rfl Tryz.ntmps46 rfl (fun A hu hA => ?_) (up_chainE _ _)
  repeat (first | refine GO ?_ | refine NW fun _ => ?_)
  refine WL.step rfl (OP.callRT rfl rfl (faultsC ch c hl) (Ent.mem MM hu hA) rfl rfl ?_)
  rintro v E ⟨a, cap, rfl, rfl⟩
  rw [List.length_map]
  repeat (first | refine GO ?_ | refine NW fun _ => ?_)
  refine WC.loop (σ := Nat) (fun k => k ≤ ch.length ∧ firstC op (ch.map Prod.snd) = firstC op ((ch.drop k).map Prod.snd)) (fun k => [(1, .val (.string op)), (9, .val (.slice a ch.length cap)), (10, .val (.int .i64 ch.length)), (11, .val (.int .i64 k))]) (fun _ => [ownS a ch.length cap 169 1 (ch.map ptrOf), A]) (fun k => ch.length - k) 0 ⟨Nat.zero_le _, rfl⟩ ⟨rfl, rfl, rfl, rfl, trivial⟩ II ?_
  rintro k ⟨hk, hf⟩
  by_cases hlt : k < ch.length
  rotate_left
  · rw [List.drop_eq_nil_of_le (by omega)] at hf
    rw [hf]
    repeat (first | refine GD ?_ | refine NW fun _ => ?_)
    exact ret2 rfl rfl ⟨rfl, MM⟩
  rw [List.drop_eq_getElem_cons hlt, List.map_cons] at hf
  refine WC.fact (Ent.some (Ent.own (a := a) (n := ch.length) (cap := cap) (T := 169) (size := 1) (cs := ch.map ptrOf) MM) (by omega)) ?_
  rintro ⟨b2, off2, rfl⟩
  have hg : ∀ {L}, A ∈ L → Ent L (cellsAt ch[k].1 0 [.string ch[k].2.1, .int .i64 ch[k].2.2]) := fun m => Ent.mem m hu fun h a => by
    obtain ⟨v, hv⟩ := chainR_get (hA h a).2 k hlt
    exact cellsAt_pre (m := [v]) hv
  have hel : (ch.map ptrOf)[k * 1]? = some (ptrOf ch[k]) := by simp [hlt]
  generalize ch[k] = x at *
  repeat (first | refine GD ?_ | refine NW fun _ => ?_)
  refine WL.step rfl (OP.load1 (v := .pointer (some ⟨x.1, 0, none⟩)) rfl rfl rfl rfl (Ent.elem (i := k * 1) (Ent.own (T := 169) MM) rfl hel) rfl rfl ?_)
  repeat (first | refine GD ?_ | refine NW fun _ => ?_)
  refine WL.step rfl (OP.load1 (v := .string x.2.1) rfl rfl rfl rfl (Ent.one (i := 0) (hg MM) rfl) rfl rfl ?_)
  by_cases ho : x.2.1 = op
  · rw [hf, firstC, if_pos ho]
    repeat (first | refine GD ?_ | refine NW fun _ => ?_)
    refine WL.step rfl (OP.load1 (v := .int .i64 x.2.2) rfl rfl rfl rfl (Ent.one (i := 1) (hg MM) rfl) rfl rfl ?_)
    repeat (first | refine GD ?_ | refine NW fun _ => ?_)
    exact ret2 rfl rfl ⟨rfl, MM⟩
  · rw [firstC, if_neg ho] at hf
    repeat (first | refine GD ?_ | refine NW fun _ => ?_)
    exact ⟨k + 1, ⟨by omega, hf⟩, by omega, ⟨rfl, rfl, rfl, rfl, trivial⟩, Imp.refl _⟩
end Go.Proofs.YtanjfjiaheghcaaGreatDoor
/- Contracts of functions of the given program, and plain laws on what they compute: parts of the proofs of laws. -/

namespace Go.Proofs.YtanjfjiaheghcaaGreatDoor
open Go Go.GL

/-! a primary: writes that waited pass -/
abbrev dnT : TypeId := 136
def encDn (d : Dn) : List Value := [.int .i64 d.1, .int .i64 d.2.1, .int .i64 d.2.2]
theorem encDn_len (d : Dn) : (encDn d).length = 3 := rfl
def DonesA (l : List Dn) (v : Value) (E : List Assn) : Prop := ∃ a cap, v = .slice a l.length cap ∧ E = [ownS a l.length cap dnT 3 (l.flatMap encDn)]
set_option maxHeartbeats 16000000 in
set_option maxRecDepth 10000 in
theorem plet_ok (p q : Nat) (P : Pri) (B : Int) (now : Int) (a : Option Addr) (cap : Nat) (l : List Call) (I : PInv P B) (hB : B + 2 * l.length + 4 ≤ widest) (hl : ∀ c ∈ l, RightC c) (hl4 : l.length ≤ 4) (V : Assn) (hV : Up V) (hT : ∀ h, V h → ErrT h) :
    Triple G 73 [.pointer (some ⟨p, 0, none⟩), .slice a l.length cap, .int .i64 now] [ownS a l.length cap caT 3 (l.flatMap encCa), priA p q P, dsk q P.D, V]
      (fun v M => ∃ E, DonesA (letP P now l).1 v E ∧ M = E ++ [priA p q (letP P now l).2, dsk q (letP P now l).2.D, V]) := by
  refine Triple.enter Tryz.func73 rfl (by decide) rfl Tryz.ntmps73 rfl (fun F => ?_)
  have hce : ∀ {L} {ch : Chain} {cd : Int}, chainR ch cd ∈ L → V ∈ L → Ent L (chainE ch cd) := fun m1 m2 => Ent.and (Ent.mem m2 hV hT) (Ent.mem m1 (up_chainR _ _) (fun _ x => x))
  repeat (first | refine GD ?_ | refine NW fun _ => ?_)
  refine WC.imp (Imp.nilS dnT 3) ?_
  refine WC.loop (σ := Nat × Option Addr × Nat) (fun s => s.1 ≤ l.length)
    (fun s => [(0, .val (.pointer (some ⟨p, 0, none⟩))), (2, .val (.int .i64 now)), (7, .val (.slice s.2.1 s.1 s.2.2)), (14, .val (.slice a l.length cap)), (15, .val (.int .i64 l.length)), (16, .val (.int .i64 s.1))])
    (fun s => [ownS s.2.1 s.1 s.2.2 dnT 3 ((letP P now (l.take s.1)).1.flatMap encDn), ownS a l.length cap caT 3 (l.flatMap encCa), priA p q (letP P now (l.take s.1)).2, dsk q (letP P now (l.take s.1)).2.D, V, F]) (fun s => l.length - s.1)
    (0, none, 0) (Nat.zero_le _) ⟨rfl, rfl, rfl, rfl, rfl, rfl, trivial⟩ (Imp.trans (Imp.refl _) II) ?_
  rintro ⟨k, ar, cr⟩ hk
  dsimp only at hk ⊢
  by_cases hlt : k < l.length
  rotate_left
  · have he : k = l.length := by omega
    subst he
    rw [List.take_length]
    repeat (first | refine GD ?_ | refine NW fun _ => ?_)
    have hln := letP_len P now l
    refine ret1 rfl ⟨_, ⟨_, ⟨ar, cr, by rw [hln], rfl⟩, rfl⟩, ?_⟩
    rw [hln]
    exact II
  obtain ⟨I1, K1⟩ := I.letK (now := now) (by omega) hl k hk
  have hln : (letP P now (l.take k)).1.length = k := by rw [letP_len, List.length_take]; omega
  have hsn : letP P now (l.take (k + 1)) = ((letP P now (l.take k)).1 ++ [(let1 (letP P now (l.take k)).2 l[k] now).1], (let1 (letP P now (l.take k)).2 l[k] now).2) := by
    rw [← List.take_append_getElem hlt, letP_snoc]
  have hrc := hl _ (List.getElem_mem hlt)
  generalize letP P now (l.take k) = st at *
  obtain ⟨ds, Pa⟩ := st
  dsimp only at I1 K1 hln hsn ⊢
  refine WC.fact (Ent.some (Ent.own (a := a) (n := l.length) (cap := cap) (T := caT) (size := 3) (cs := l.flatMap encCa) MM) (by omega)) ?_
  rintro ⟨b, off, rfl⟩
  refine WC.open (M := [ownS ar k cr dnT 3 (ds.flatMap encDn), ownS (some ⟨b, off, none⟩) l.length cap caT 3 (l.flatMap encCa), dsk q Pa.D, V, F]) (Ls := priL p q Pa) II (fun x => ?_)
  obtain ⟨v, g, s⟩ := x
  have hfold := fun (N : List Assn) => priFold p q (Pa.at_ now) v g s (N := N)
  have hck := lcheck_ok s Pa.S Pa.S.epoch now
  unfold priL
  dsimp only [List.cons_append, List.nil_append]
  unfold pndC at *
  repeat (first | refine GD ?_ | refine NW fun _ => ?_)
  refine WL.step rfl (OP.loadA (l := encCa l[k]) rfl rfl rfl rfl (Ent.elA (f := encCa) encCa_len (Ent.own (T := caT) MM) hlt) rfl rfl rfl ?_)
  generalize l[k] = c at *
  have hdef : let1 Pa c now = match checkS Pa.S Pa.S.epoch now with
    | some k => ((c.1, 0, k), Pa.at_ now)
    | none => match doP (Pa.at_ now) c with
      | .error (_, k) => ((c.1, 0, k), Pa.at_ now)
      | .ok (k, P') => ((c.1, k, 0), P') := rfl
  have hdo := pdo_ok p q (Pa.at_ now) (B + 2 * k) (I1.at_ now) (by omega) c hrc
  have hdne := fun l k h => doP_ne (now := now) I1 (by omega) hrc (l := l) (k := k) h
  unfold DoPost at hdo
  obtain ⟨id, block, data⟩ := c
  rw [show encCa (id, block, data) = [.int .i64 id, .int .i64 block, .string data] from rfl] at *
  dsimp only at hdef
  repeat (first | refine GD ?_ | refine NW fun _ => ?_)
  rename_i cb
  refine WL.step rfl (OP.callRO rfl rfl (lepoch_ro s Pa.S) (Ent.at (up_siteA _ _) MM) rfl rfl ?_)
  repeat (first | refine GD ?_ | refine NW fun _ => ?_)
  refine WL.step rfl (OP.call (pre := [siteA s Pa.S]) rfl rfl hck PS rfl rfl ?_)
  rintro er _ ⟨E, hE, rfl⟩
  cases hk : checkS Pa.S Pa.S.epoch now with
  | some kc =>
    rw [hk] at hE hdef
    obtain ⟨y, ch, hc1, rfl, rfl⟩ := isEr_hd hE (by simp)
    have hcc := codeC (y :: ch) kc
    dsimp only [valOf, List.cons_append, List.nil_append] at hcc hdef ⊢
    repeat (first | refine GD ?_ | refine NW fun _ => ?_)
    refine WC.imp (M := [chainR (y :: ch) kc, blk cb [.int .i64 id, .int .i64 block, .string data] caT, ownS ar k cr dnT 3 (ds.flatMap encDn), ownS (some ⟨b, off, none⟩) l.length cap caT 3 (l.flatMap encCa), priA p q (Pa.at_ now), dsk q Pa.D, V, F]) (Imp.trans II (Imp.trans (hfold [chainR (y :: ch) kc, blk cb [.int .i64 id, .int .i64 block, .string data] caT, ownS ar k cr dnT 3 (ds.flatMap encDn), ownS (some ⟨b, off, none⟩) l.length cap caT 3 (l.flatMap encCa), dsk q Pa.D, V, F]) II)) ?_
    refine RD 8 10 (_) ?_
    refine WP 0 ?_
    refine WP 1 ?_
    refine VV 2 ?_
    refine WP 3 ?_
    refine WP 4 ?_
    refine WH.only 5 rfl rfl (by kernel_rfl) rfl (OP.callRO rfl rfl (hcc) (hce MM MM) rfl rfl ⟨fun _ => II, ?_⟩)
    refine WH.only 6 rfl rfl (by kernel_rfl) rfl (OP.buildT rfl rfl rfl rfl ⟨fun _ => II, ?_⟩)
    refine WH.only 7 rfl rfl (by kernel_rfl) rfl (OP.sliceLit (c := encDn (id, 0, kc)) rfl rfl rfl rfl rfl rfl rfl rfl (fun b2 => ⟨fun _ => II, ?_⟩))
    refine WH.only 8 rfl rfl (by kernel_rfl) rfl (OP.append rfl rfl rfl rfl rfl rfl rfl rfl rfl P1 (Ent.own MM) rfl (by omega) (by omega) rfl rfl (fun a' cap' => ⟨(fun h => nomatch h), ?_⟩))
    refine WP 9 ?_
    refine DN ?_
    repeat (first | refine GD ?_ | refine NW fun _ => ?_)
    refine ⟨(k + 1, a', cap'), hlt, by dsimp only; omega, ⟨rfl, rfl, rfl, rfl, rfl, rfl, trivial⟩, ?_⟩
    dsimp only
    rw [hsn, hdef]
    dsimp only
    rw [List.flatMap_append, List.flatMap_cons, List.flatMap_nil, List.append_nil]
    exact II
  | none =>
    rw [hk] at hE hdef
    obtain ⟨rfl, rfl⟩ := hE
    dsimp only [List.nil_append] at hdef ⊢
    repeat (first | refine GD ?_ | refine NW fun _ => ?_)
    refine WL.imp (M := [blk cb [.int .i64 id, .int .i64 block, .string data] caT, ownS ar k cr dnT 3 (ds.flatMap encDn), ownS (some ⟨b, off, none⟩) l.length cap caT 3 (l.flatMap encCa), priA p q (Pa.at_ now), dsk q Pa.D, V, F]) (Imp.trans II (Imp.trans (hfold [blk cb [.int .i64 id, .int .i64 block, .string data] caT, ownS ar k cr dnT 3 (ds.flatMap encDn), ownS (some ⟨b, off, none⟩) l.length cap caT 3 (l.flatMap encCa), dsk q Pa.D, V, F]) II)) ?_
    cases hq : doP (Pa.at_ now) (id, block, data) with
    | error lc =>
      obtain ⟨le, kc⟩ := lc
      rw [hq] at hdo hdef
      dsimp only at hdo hdef
      refine WL.step rfl (OP.call (pre := [priA p q (Pa.at_ now), dsk q Pa.D]) rfl rfl hdo PS rfl rfl ?_)
      rintro _ _ ⟨e', E, hE, rfl, rfl⟩
      obtain ⟨ch, hc1, rfl, rfl⟩ := hE
      have hcc := codeC ch kc
      cases ch with
      | nil =>
        dsimp only [valOf, List.cons_append, List.nil_append] at hcc ⊢
        repeat (first | refine GD ?_ | refine NW fun _ => ?_)
        refine RD 8 10 (_) ?_
        refine WP 0 ?_
        refine WP 1 ?_
        refine VV 2 ?_
        refine WP 3 ?_
        refine WP 4 ?_
        refine WH.only 5 rfl rfl (by kernel_rfl) rfl (OP.callRO rfl rfl (hcc) (hce MM MM) rfl rfl ⟨fun _ => II, ?_⟩)
        refine WH.only 6 rfl rfl (by kernel_rfl) rfl (OP.buildT rfl rfl rfl rfl ⟨fun _ => II, ?_⟩)
        refine WH.only 7 rfl rfl (by kernel_rfl) rfl (OP.sliceLit (c := encDn (id, 0, kc)) rfl rfl rfl rfl rfl rfl rfl rfl (fun b2 => ⟨fun _ => II, ?_⟩))
        refine WH.only 8 rfl rfl (by kernel_rfl) rfl (OP.append rfl rfl rfl rfl rfl rfl rfl rfl rfl P1 (Ent.own MM) rfl (by omega) (by omega) rfl rfl (fun a' cap' => ⟨(fun h => nomatch h), ?_⟩))
        refine WP 9 ?_
        refine DN ?_
        repeat (first | refine GD ?_ | refine NW fun _ => ?_)
        refine ⟨(k + 1, a', cap'), hlt, by dsimp only; omega, ⟨rfl, rfl, rfl, rfl, rfl, rfl, trivial⟩, ?_⟩
        dsimp only
        rw [hsn, hdef]
        dsimp only
        rw [List.flatMap_append, List.flatMap_cons, List.flatMap_nil, List.append_nil]
        exact II
      | cons y ch =>
        dsimp only [valOf, List.cons_append, List.nil_append] at hcc ⊢
        repeat (first | refine GD ?_ | refine NW fun _ => ?_)
        refine RD 8 10 (_) ?_
        refine WP 0 ?_
        refine WP 1 ?_
        refine VV 2 ?_
        refine WP 3 ?_
        refine WP 4 ?_
        refine WH.only 5 rfl rfl (by kernel_rfl) rfl (OP.callRO rfl rfl (hcc) (hce MM MM) rfl rfl ⟨fun _ => II, ?_⟩)
        refine WH.only 6 rfl rfl (by kernel_rfl) rfl (OP.buildT rfl rfl rfl rfl ⟨fun _ => II, ?_⟩)
        refine WH.only 7 rfl rfl (by kernel_rfl) rfl (OP.sliceLit (c := encDn (id, 0, kc)) rfl rfl rfl rfl rfl rfl rfl rfl (fun b2 => ⟨fun _ => II, ?_⟩))
        refine WH.only 8 rfl rfl (by kernel_rfl) rfl (OP.append rfl rfl rfl rfl rfl rfl rfl rfl rfl P1 (Ent.own MM) rfl (by omega) (by omega) rfl rfl (fun a' cap' => ⟨(fun h => nomatch h), ?_⟩))
        refine WP 9 ?_
        refine DN ?_
        repeat (first | refine GD ?_ | refine NW fun _ => ?_)
        refine ⟨(k + 1, a', cap'), hlt, by dsimp only; omega, ⟨rfl, rfl, rfl, rfl, rfl, rfl, trivial⟩, ?_⟩
        dsimp only
        rw [hsn, hdef]
        dsimp only
        rw [List.flatMap_append, List.flatMap_cons, List.flatMap_nil, List.append_nil]
        exact II
    | ok y =>
      obtain ⟨kn, Pb⟩ := y
      rw [hq] at hdo hdef
      dsimp only at hdo hdef
      refine WL.step rfl (OP.call (pre := [priA p q (Pa.at_ now), dsk q Pa.D]) rfl rfl hdo PS rfl rfl ?_)
      rintro _ _ ⟨rfl, rfl⟩
      dsimp only [List.cons_append, List.nil_append]
      repeat (first | refine GD ?_ | refine NW fun _ => ?_)
      refine RD 8 10 (_) ?_
      refine WP 0 ?_
      refine WP 1 ?_
      refine VV 2 ?_
      refine WP 3 ?_
      refine WP 4 ?_
      refine WH.only 5 rfl rfl (by kernel_rfl) rfl (OP.callRO rfl rfl (code_nil) ((fun _ _ => trivial)) rfl rfl ⟨fun _ => II, ?_⟩)
      refine WH.only 6 rfl rfl (by kernel_rfl) rfl (OP.buildT rfl rfl rfl rfl ⟨fun _ => II, ?_⟩)
      refine WH.only 7 rfl rfl (by kernel_rfl) rfl (OP.sliceLit (c := encDn (id, kn, 0)) rfl rfl rfl rfl rfl rfl rfl rfl (fun b2 => ⟨fun _ => II, ?_⟩))
      refine WH.only 8 rfl rfl (by kernel_rfl) rfl (OP.append rfl rfl rfl rfl rfl rfl rfl rfl rfl P1 (Ent.own MM) rfl (by omega) (by omega) rfl rfl (fun a' cap' => ⟨(fun h => nomatch h), ?_⟩))
      refine WP 9 ?_
      refine DN ?_
      repeat (first | refine GD ?_ | refine NW fun _ => ?_)
      refine ⟨(k + 1, a', cap'), hlt, by dsimp only; omega, ⟨rfl, rfl, rfl, rfl, rfl, rfl, trivial⟩, ?_⟩
      dsimp only
      rw [hsn, hdef]
      dsimp only
      rw [List.flatMap_append, List.flatMap_cons, List.flatMap_nil, List.append_nil]
      exact II
def ThawPost (p q : Nat) (R : List Dn × Er × Pri) (V : Assn) (x : Value) (M : List Assn) : Prop := ∃ d E e E', DonesA R.1 d E ∧ IsEr R.2.1 e E' ∧ x = .tuple #[d, e] ∧ M = E' ++ (E ++ [priA p q R.2.2, dsk q R.2.2.D, V])
set_option maxHeartbeats 8000000 in
set_option maxRecDepth 10000 in
theorem pthaw_ok (p q : Nat) (P : Pri) (B : Int) (I : PInv P B) (hB : B + 12 ≤ widest) (round now : Int) (V : Assn) (hV : Up V) (hT : ∀ h, V h → ErrT h) :
    Triple G 22 [.pointer (some ⟨p, 0, none⟩), .int .i64 round, .int .i64 now] [priA p q P, dsk q P.D, V] (ThawPost p q (thawP P round now) V) := by
  refine Triple.enter Tryz.func22 rfl (by decide) rfl Tryz.ntmps22 rfl (fun F => ?_)
  refine WC.open (M := [dsk q P.D, V, F]) (Ls := priL p q P) II (fun x => ?_)
  obtain ⟨v, g, s⟩ := x
  have hdef : thawP P round now = match thawG P.G round with
    | .error c => ([], some ([(primT, round), (gateT, round)], c), P)
    | .ok (l, g) => ((letP { P with G := g } now l).1, none, (letP { P with G := g } now l).2) := rfl
  have hdn := pdown_ro p q P.V.J.ring v (.pointer (some ⟨g, 0, none⟩)) (.pointer (some ⟨s, 0, none⟩)) P.marked P.floor P.acked
  have hgt := gthaw_ok g P.G round
  unfold ThawG at hgt
  unfold priL
  dsimp only [List.cons_append, List.nil_append]
  have hfold := fun (G' : Gt) (N : List Assn) => priFold p q { P with G := G' } v g s (N := N)
  have hfew := I.few
  unfold pndC at *
  dsimp only at hfold
  repeat (first | refine GD ?_ | refine NW fun _ => ?_)
  refine WL.step rfl (OP.callRO rfl rfl hdn (Ent.at (up_blk _ _ _) MM) rfl rfl ?_)
  repeat (first | refine GD ?_ | refine NW fun _ => ?_)
  refine WL.step rfl (OP.call (pre := [gateA g P.G]) rfl rfl hgt PS rfl rfl ?_)
  intro xv M hM
  cases hq : thawG P.G round with
  | error c =>
    rw [hq] at hM hdef
    obtain ⟨e, E, hE, rfl, rfl⟩ := hM
    obtain ⟨y, ch, hc1, rfl, rfl⟩ := isEr_hd hE (by simp)
    dsimp only [List.cons_append, List.nil_append]
    have hlt := plet_ok p q P B now none 0 [] I (by show B + 0 + 4 ≤ widest; omega) (fun _ h => nomatch h) (Nat.zero_le _) V hV hT
    have hwr := pwrong_ok round (y :: ch) c (fun h => nomatch h.1)
    dsimp only [valOf] at hwr
    repeat (first | refine GD ?_ | refine NW fun _ => ?_)
    refine WL.imp (M := [ownS none 0 0 caT 3 (([] : List Call).flatMap encCa), priA p q P, dsk q P.D, V, chainR (y :: ch) c, F]) (Imp.trans (Imp.nilS caT 3) (Imp.trans II (Imp.trans (hfold P.G [ownS none 0 0 caT 3 (([] : List Call).flatMap encCa), dsk q P.D, V, chainR (y :: ch) c, F]) II))) ?_
    refine WL.step rfl (OP.call (pre := [ownS none 0 0 caT 3 (([] : List Call).flatMap encCa), priA p q P, dsk q P.D, V]) rfl rfl hlt PS rfl rfl ?_)
    rintro _ _ ⟨E, ⟨a', cap', rfl, rfl⟩, rfl⟩
    dsimp only [List.cons_append, List.nil_append]
    repeat (first | refine GD ?_ | refine NW fun _ => ?_)
    refine WL.step rfl (OP.call (pre := [chainR (y :: ch) c]) rfl rfl hwr PS rfl rfl ?_)
    intro w M hM
    rw [hc1] at hM
    repeat (first | refine GD ?_ | refine NW fun _ => ?_)
    refine ret2 rfl rfl ⟨M ++ ([ownS a' 0 cap' dnT 3 (([] : List Dn).flatMap encDn)] ++ [priA p q P, dsk q P.D, V]), by unfold ThawPost; rw [hdef]; exact ⟨_, _, w, M, ⟨a', cap', rfl, rfl⟩, hM, rfl, rfl⟩, ?_⟩
    rw [List.append_assoc]
    exact Imp.appL II M
  | ok y =>
    obtain ⟨l, g2⟩ := y
    rw [hq] at hM hdef
    obtain ⟨xl, E, ⟨al, cl, rfl, rfl⟩, rfl, rfl⟩ := hM
    have hl : l = P.G.wait ∧ g2 = P.G.opened := by
      unfold thawG at hq
      split at hq
      · cases hq
      · cases hq; exact ⟨rfl, rfl⟩
    obtain ⟨rfl, rfl⟩ := hl
    have hlt := plet_ok p q { P with G := P.G.opened } B now al cl P.G.wait I.opened (by omega) I.wr hfew V hV hT
    dsimp only [List.cons_append, List.nil_append] at hlt hdef ⊢
    generalize P.G.opened = G2 at *
    have hlw : (letP { P with G := G2 } now P.G.wait).1.length = P.G.wait.length := letP_len _ _ _
    generalize letP { P with G := G2 } now P.G.wait = R at *
    obtain ⟨ds, Pb⟩ := R
    dsimp only at hlt hdef hlw
    repeat (first | refine GD ?_ | refine NW fun _ => ?_)
    refine WL.imp (M := [ownS al P.G.wait.length cl caT 3 (P.G.wait.flatMap encCa), priA p q { P with G := G2 }, dsk q P.D, V, F]) (Imp.trans II (Imp.trans (hfold G2 [ownS al P.G.wait.length cl caT 3 (P.G.wait.flatMap encCa), dsk q P.D, V, F]) II)) ?_
    refine WL.step rfl (OP.call (pre := [ownS al P.G.wait.length cl caT 3 (P.G.wait.flatMap encCa), priA p q { P with G := G2 }, dsk q P.D, V]) rfl rfl hlt PS rfl rfl ?_)
    rintro _ _ ⟨E, ⟨a', cap', rfl, rfl⟩, rfl⟩
    dsimp only [List.cons_append, List.nil_append]
    repeat (first | refine GD ?_ | refine NW fun _ => ?_)
    refine WL.step rfl (OP.callRO rfl rfl (pwrong_nil round) (fun _ _ => trivial) rfl rfl ?_)
    repeat (first | refine GD ?_ | refine NW fun _ => ?_)
    exact ret2 rfl rfl ⟨[] ++ ([ownS a' ds.length cap' dnT 3 (ds.flatMap encDn)] ++ [priA p q Pb, dsk q Pb.D, V]), by unfold ThawPost; rw [hdef]; exact ⟨_, _, _, [], ⟨a', cap', rfl, rfl⟩, ⟨rfl, rfl⟩, rfl, rfl⟩, II⟩
set_option maxHeartbeats 8000000 in
set_option maxRecDepth 10000 in
theorem ptick_ok (p q : Nat) (P : Pri) (B : Int) (I : PInv P B) (hB : B + 12 ≤ widest) (now : Int) (V : Assn) (hV : Up V) (hT : ∀ h, V h → ErrT h) :
    Triple G 26 [.pointer (some ⟨p, 0, none⟩), .int .i64 now] [priA p q P, dsk q P.D, V] (fun v M => ∃ E, DonesA (tickP P now).1 v E ∧ M = E ++ [priA p q (tickP P now).2, dsk q (tickP P now).2.D, V]) := by
  refine Triple.enter Tryz.func26 rfl (by decide) rfl Tryz.ntmps26 rfl (fun F => ?_)
  refine WC.open (M := [dsk q P.D, V, F]) (Ls := priL p q P) II (fun x => ?_)
  obtain ⟨v, g, s⟩ := x
  have hdn := pdown_ro p q P.V.J.ring v (.pointer (some ⟨g, 0, none⟩)) (.pointer (some ⟨s, 0, none⟩)) P.marked P.floor P.acked
  have hgt := gtick_ok g P.G I.left
  have hI2 : PInv { P with G := (tickG P.G).2 } B ∧ (∀ c ∈ (tickG P.G).1, RightC c) ∧ (tickG P.G).1.length ≤ 4 := by
    unfold tickG
    have hl := I.left
    split
    · exact ⟨I, (fun _ h => nomatch h), Nat.zero_le _⟩
    split
    · exact ⟨{ I with left := by show 0 ≤ P.G.left - 1 ∧ P.G.left - 1 ≤ 6; omega }, (fun _ h => nomatch h), Nat.zero_le _⟩
    · exact ⟨I.opened, I.wr, I.few⟩
  obtain ⟨I2, h2, h4⟩ := hI2
  have hlt := fun al cl => plet_ok p q { P with G := (tickG P.G).2 } B now al cl (tickG P.G).1 I2 (by omega) h2 h4 V hV hT
  rw [show letP { P with G := (tickG P.G).2 } now (tickG P.G).1 = tickP P now from rfl] at hlt
  unfold priL
  dsimp only [List.cons_append, List.nil_append]
  have hfold := fun (G' : Gt) (N : List Assn) => priFold p q { P with G := G' } v g s (N := N)
  unfold pndC at *
  dsimp only at hfold
  generalize (tickG P.G).1 = l at *
  generalize (tickG P.G).2 = G2 at *
  generalize tickP P now = R at *
  obtain ⟨ds, Pb⟩ := R
  dsimp only at hlt ⊢
  repeat (first | refine GD ?_ | refine NW fun _ => ?_)
  refine WL.step rfl (OP.callRO rfl rfl hdn (Ent.at (up_blk _ _ _) MM) rfl rfl ?_)
  repeat (first | refine GD ?_ | refine NW fun _ => ?_)
  refine WL.step rfl (OP.call (pre := [gateA g P.G]) rfl rfl hgt PS rfl rfl ?_)
  rintro xv _ ⟨E, ⟨al, cl, rfl, rfl⟩, rfl⟩
  have hlt' := hlt al cl
  dsimp only [List.cons_append, List.nil_append]
  repeat (first | refine GD ?_ | refine NW fun _ => ?_)
  refine WL.imp (M := [ownS al l.length cl caT 3 (l.flatMap encCa), priA p q { P with G := G2 }, dsk q P.D, V, F]) (Imp.trans II (Imp.trans (hfold G2 [ownS al l.length cl caT 3 (l.flatMap encCa), dsk q P.D, V, F]) II)) ?_
  refine WL.step rfl (OP.call (pre := [ownS al l.length cl caT 3 (l.flatMap encCa), priA p q { P with G := G2 }, dsk q P.D, V]) rfl rfl hlt' PS rfl rfl ?_)
  rintro _ _ ⟨E, ⟨a', cap', rfl, rfl⟩, rfl⟩
  dsimp only [List.cons_append, List.nil_append]
  repeat (first | refine GD ?_ | refine NW fun _ => ?_)
  exact ret1 rfl ⟨[ownS a' ds.length cap' dnT 3 (ds.flatMap encDn)] ++ [priA p q Pb, dsk q Pb.D, V], ⟨_, ⟨a', cap', rfl, rfl⟩, rfl⟩, II⟩
end Go.Proofs.YtanjfjiaheghcaaGreatDoor
