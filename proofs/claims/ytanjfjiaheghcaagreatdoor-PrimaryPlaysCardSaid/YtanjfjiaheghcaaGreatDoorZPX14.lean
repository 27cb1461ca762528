/- Contracts of functions of the given program, and plain laws: parts of the proofs of laws. -/
import Derived.Test.YtanjfjiaheghcaaGreatDoorZPX3
import Derived.Test.YtanjfjiaheghcaaGreatDoorZPX11
import Derived.Test.YtanjfjiaheghcaaGreatDoorZPX9
import Derived.Test.YtanjfjiaheghcaaGreatDoorZPX13
import Derived.Test.YtanjfjiaheghcaaGreatDoorZPX10
import Derived.Test.YtanjfjiaheghcaaGreatDoorZPX7
import Derived.Test.YtanjfjiaheghcaaGreatDoorZPX5
/- Contracts of functions of the given program, and plain laws on what they compute: parts of the proofs of laws. -/

namespace Go.Proofs.YtanjfjiaheghcaaGreatDoor
open Go Go.GL

/-! the document's primary -/
abbrev rnT : TypeId := 49
def rndC (w : Nat) (v g s : Value) (ring marked floor acked : Int) : List Value := [.pointer (some ⟨w, 0, none⟩), v, g, s, .int .i64 ring, .int .i64 marked, .int .i64 floor, .int .i64 acked]
def rpriL (nd w : Nat) (P : Pri) (x : Nat × Nat × Nat) : List Assn := [blk nd (rndC w (.pointer (some ⟨x.1, 0, none⟩)) (.pointer (some ⟨x.2.1, 0, none⟩)) (.pointer (some ⟨x.2.2, 0, none⟩)) P.V.J.ring P.marked P.floor P.acked) rnT, rvol x.1 w P.V, rgateA x.2.1 P.G, rsiteA x.2.2 P.S]
def rpriA (nd w : Nat) (P : Pri) : Assn := exA (rpriL nd w P)
theorem rpriFold (nd w : Nat) (P : Pri) (v g s : Nat) {N : List Assn} : Imp (blk nd (rndC w (.pointer (some ⟨v, 0, none⟩)) (.pointer (some ⟨g, 0, none⟩)) (.pointer (some ⟨s, 0, none⟩)) P.V.J.ring P.marked P.floor P.acked) rnT :: rvol v w P.V :: rgateA g P.G :: rsiteA s P.S :: N) (rpriA nd w P :: N) := Imp.fold (Ls := rpriL nd w P) (v, g, s)
def erC (o : Option Er1) : Int := match o with
  | none => 0
  | some er => er.2
def exV (e : Except Er1 Int) : Value := match e with
  | .ok k => .tuple #[.int .i64 k, .int .i64 0]
  | .error er => .tuple #[.int .i64 0, .int .i64 er.2]
set_option maxRecDepth 10000 in
theorem rfloor_ro (n : Int) : RO G 66 [.int .i64 n] (fun _ => True) (.string (ba (sectorM (numB (clampN n))))) := by
  refine RO.enter Tryz.func66 rfl (by decide) rfl Tryz.ntmps66 rfl (fun A hu hA => ?_) (fun _ _ _ h => h)
  repeat (first | refine GO ?_ | refine NW fun _ => ?_)
  refine WL.step rfl (OP.callRO rfl rfl (qnumber_ro n) (fun _ _ => trivial) rfl rfl ?_)
  repeat (first | refine GO ?_ | refine NW fun _ => ?_)
  refine WL.step rfl (OP.callRO rfl rfl (qsector_ro (numB (clampN n)) (flB_len n)) (fun _ _ => trivial) rfl rfl ?_)
  repeat (first | refine GO ?_ | refine NW fun _ => ?_)
  exact ret1 rfl ⟨rfl, MM⟩
def RDoPost (nd w : Nat) (P : Pri) (c : Call) (x : Value) (M : List Assn) : Prop := match doP P c with
  | .ok (k, P') => x = .tuple #[.int .i64 k, .int .i64 0] ∧ M = [rpriA nd w P', rdsk w P'.D]
  | .error er => x = .tuple #[.int .i64 0, .int .i64 er.2] ∧ M = [rpriA nd w P, rdsk w P.D]
set_option maxHeartbeats 4000000 in
set_option maxRecDepth 10000 in
theorem rpdo_ok (nd w : Nat) (P : Pri) (B : Int) (I : PInv P B) (hB : B + 4 ≤ widest) (c : Call) (hc : RightC c) (hne : ∀ l k, doP P c = .error (l, k) → k ≠ 0) : Triple G 57 [.pointer (some ⟨nd, 0, none⟩), .agg (encCa c).toArray] [rpriA nd w P, rdsk w P.D] (RDoPost nd w P c) := by
  refine Triple.enter Tryz.func57 rfl (by decide) rfl Tryz.ntmps57 rfl (fun F => ?_)
  refine WC.open (M := [rdsk w P.D, F]) (Ls := rpriL nd w P) II (fun x => ?_)
  obtain ⟨v, g, s⟩ := x
  have hdef : doP P c = match writeV P.V P.D c.2.1 c.2.2 with
    | .error e => .error e
    | .ok (V', D') => .ok (P.V.J.next, { P with V := V', D := D'.flush }) := rfl
  have hwr := rvwrite_ok v w P.V P.D c.2.1 c.2.2 (I.rng (by omega)).J I.V.len (by rw [I.W]; decide)
  unfold RAppVP at hwr
  have hap : ∀ {V' D'}, writeV P.V P.D c.2.1 c.2.2 = .ok (V', D') → D'.ok ∧ D'.W.length < 10000 ∧ V'.J.ring = P.V.J.ring := fun {V' D'} h => by
    unfold writeV at h
    rw [if_neg (fun h => h hc.1), if_neg (by have := hc.2; omega)] at h
    obtain ⟨I2, e, _⟩ := I.V.append h
    exact ⟨I2.j.dok, I2.j.few, e⟩
  have hfold := fun (N : List Assn) => rpriFold nd w P v g s (N := N)
  unfold rpriL
  dsimp only [List.cons_append, List.nil_append]
  unfold rndC at *
  obtain ⟨id, block, data⟩ := c
  rw [show encCa (id, block, data) = [.int .i64 id, .int .i64 block, .string data] from rfl]
  dsimp only at hdef hwr hap
  repeat (first | refine GD ?_ | refine NW fun _ => ?_)
  cases hq : writeV P.V P.D block data with
  | error lc =>
    obtain ⟨l, cd⟩ := lc
    rw [hq] at hwr hdef
    have hcd := hne l cd hdef
    refine RD 8 14 (_) ?_
    refine WP 0 ?_
    refine WP 1 ?_
    refine WP 2 ?_
    refine VV 3 ?_
    refine WP 4 ?_
    refine VV 5 ?_
    refine WP 6 ?_
    refine VV 7 ?_
    refine WH.only 8 rfl rfl (by kernel_rfl) rfl (OP.call (pre := [rvol v w P.V, rdsk w P.D]) rfl rfl hwr PS rfl rfl (fun x M hM => ?_))
    obtain ⟨rfl, rfl⟩ := hM
    refine ⟨(fun h => nomatch h), ?_⟩
    refine WP 9 ?_
    refine WP 10 ?_
    refine WP 11 ?_
    refine WP 12 ?_
    refine WP 13 ?_
    refine DN ?_
    repeat (first | refine GD ?_ | refine NW fun _ => ?_)
    refine ret2 rfl rfl ⟨[rpriA nd w P, rdsk w P.D], by unfold RDoPost; rw [hdef]; exact ⟨rfl, rfl⟩, ?_⟩
    exact Imp.trans II (Imp.trans (hfold [rdsk w P.D, F]) II)
  | ok y =>
    obtain ⟨V', D'⟩ := y
    obtain ⟨d1, d2, d3⟩ := hap hq
    rw [hq] at hwr hdef
    dsimp only at hwr hdef
    refine RD 8 14 (_) ?_
    refine WP 0 ?_
    refine WP 1 ?_
    refine WP 2 ?_
    refine VV 3 ?_
    refine WP 4 ?_
    refine VV 5 ?_
    refine WP 6 ?_
    refine VV 7 ?_
    refine WH.only 8 rfl rfl (by kernel_rfl) rfl (OP.call (pre := [rvol v w P.V, rdsk w P.D]) rfl rfl hwr PS rfl rfl (fun x M hM => ?_))
    obtain ⟨rfl, rfl⟩ := hM
    refine ⟨(fun h => nomatch h), ?_⟩
    refine WP 9 ?_
    refine WP 10 ?_
    refine WP 11 ?_
    refine WP 12 ?_
    refine WP 13 ?_
    refine DN ?_
    repeat (first | refine GD ?_ | refine NW fun _ => ?_)
    refine WL.step rfl (OP.call (pre := [rdsk w D']) rfl rfl (rdflush_ok w D' d1 (by omega)) PS rfl rfl ?_)
    rintro _ _ ⟨rfl, rfl⟩
    repeat (first | refine GD ?_ | refine NW fun _ => ?_)
    refine ret2 rfl rfl ⟨[rpriA nd w { P with V := V', D := D'.flush }, rdsk w D'.flush], by unfold RDoPost; rw [hdef]; exact ⟨rfl, rfl⟩, ?_⟩
    have hf := rpriFold nd w { P with V := V', D := D'.flush } v g s (N := [rdsk w D'.flush, F])
    dsimp only at hf
    rw [d3] at hf
    exact Imp.trans II hf
def RWritePost (nd w : Nat) (R : Except Er1 Int × Pri) (x : Value) (M : List Assn) : Prop := x = exV R.1 ∧ M = [rpriA nd w R.2, rdsk w R.2.D]
set_option maxHeartbeats 8000000 in
set_option maxRecDepth 10000 in
theorem rpwrite_ok (nd w : Nat) (P : Pri) (B : Int) (I : PInv P B) (hB : B + 4 ≤ widest) (c : Call) (hsz : c.2.2.size < 1000000) (e now : Int) : Triple G 15 [.pointer (some ⟨nd, 0, none⟩), .agg (encCa c).toArray, .int .i64 e, .int .i64 now] [rpriA nd w P, rdsk w P.D] (RWritePost nd w (writeP P c e now)) := by
  refine Triple.enter Tryz.func15 rfl (by decide) rfl Tryz.ntmps15 rfl (fun F => ?_)
  refine WC.open (M := [rdsk w P.D, F]) (Ls := rpriL nd w P) II (fun x => ?_)
  obtain ⟨v, g, s⟩ := x
  have hdef : writeP P c e now = match checkS P.S e now with
    | some k => (.error ([(primT, c.2.1), (leaseT, e)], k), P.at_ now)
    | none => if ¬ (0 ≤ c.2.1 ∧ c.2.1 < 8) then (.error ([(primT, c.2.1)], 5), P.at_ now)
      else if 16 < c.2.2.size then (.error ([(primT, c.2.1)], 1), P.at_ now)
      else enterP (P.at_ now) c := rfl
  have hen : enterP (P.at_ now) c = if P.G.round = 0 then match doP (P.at_ now) c with
      | .error (l, k) => (.error ((primT, c.2.1) :: l, k), P.at_ now)
      | .ok (k, P') => (.ok k, P')
    else if 4 ≤ P.G.wait.length then (.error ([(primT, c.2.1), (gateT, P.G.round)], 7), P.at_ now)
    else (.ok 0, { P.at_ now with G := { P.G with wait := P.G.wait ++ [c] } }) := rfl
  have hck := rlcheck_ok s P.S e now
  have hdo := fun hc => rpdo_ok nd w (P.at_ now) B (I.at_ now) hB c hc (fun l k h => doP_ne I hB hc h)
  unfold RDoPost at hdo
  have hge := rgenter_ok g P.G c I.few
  unfold REnterG at hge
  have hfold := fun (N : List Assn) => rpriFold nd w (P.at_ now) v g s (N := N)
  unfold RWritePost
  unfold rpriL
  dsimp only [List.cons_append, List.nil_append]
  unfold rndC at *
  obtain ⟨id, block, data⟩ := c
  have hec : encCa (id, block, data) = [.int .i64 id, .int .i64 block, .string data] := rfl
  rw [hec] at *
  dsimp only at hdef hen
  repeat (first | refine GD ?_ | refine NW fun _ => ?_)
  rename_i cb
  refine WL.step rfl (OP.call (pre := [rsiteA s P.S]) rfl rfl hck PS rfl rfl ?_)
  rintro _ _ ⟨rfl, rfl⟩
  cases hk : checkS P.S e now with
  | some k =>
    rw [hk] at hdef
    have hkn := checkS_ne hk
    rw [show cdO (some k) = .int .i64 k from rfl]
    repeat (first | refine GD ?_ | refine NW fun _ => ?_)
    exact ret2 rfl rfl ⟨[rpriA nd w (P.at_ now), rdsk w P.D], by rw [hdef]; exact ⟨rfl, rfl⟩, Imp.trans II (Imp.trans (hfold [rdsk w P.D, F]) II)⟩
  | none =>
  rw [hk] at hdef
  rw [show cdO none = .int .i64 0 from rfl]
  dsimp only [List.cons_append, List.nil_append] at hdef ⊢
  by_cases hb0 : block < 0
  · rw [if_pos (by omega)] at hdef
    repeat (first | refine GD ?_ | refine NW fun _ => ?_)
    exact ret2 rfl rfl ⟨[rpriA nd w (P.at_ now), rdsk w P.D], by rw [hdef]; exact ⟨rfl, rfl⟩, Imp.trans II (Imp.trans (hfold [rdsk w P.D, F]) II)⟩
  by_cases hb7 : 7 < block
  · rw [if_pos (by omega)] at hdef
    repeat (first | refine GD ?_ | refine NW fun _ => ?_)
    exact ret2 rfl rfl ⟨[rpriA nd w (P.at_ now), rdsk w P.D], by rw [hdef]; exact ⟨rfl, rfl⟩, Imp.trans II (Imp.trans (hfold [rdsk w P.D, F]) II)⟩
  rw [if_neg (by omega)] at hdef
  by_cases h2 : 16 < data.size
  · rw [if_pos h2] at hdef
    repeat (first | refine GD ?_ | refine NW fun _ => ?_)
    exact ret2 rfl rfl ⟨[rpriA nd w (P.at_ now), rdsk w P.D], by rw [hdef]; exact ⟨rfl, rfl⟩, Imp.trans II (Imp.trans (hfold [rdsk w P.D, F]) II)⟩
  rw [if_neg h2] at hdef
  rw [hen] at hdef
  repeat (first | refine GD ?_ | refine NW fun _ => ?_)
  by_cases h0 : P.G.round = 0
  · rw [if_pos h0] at hdef
    have hge' : Triple G 56 [.pointer (some ⟨g, 0, none⟩), .agg #[.int .i64 id, .int .i64 block, .string data]] [rgateA g P.G] (fun v M => v = .tuple #[.bool true, .int .i64 0] ∧ M = [rgateA g P.G]) := hge.mono fun v M h => by
      rw [if_pos h0] at h
      exact ⟨M, h, Imp.refl _⟩
    refine RD 5 11 (_) ?_
    refine WP 0 ?_
    refine WP 1 ?_
    refine WP 2 ?_
    refine VV 3 ?_
    refine VL 4 (.agg (encCa (id, block, data)).toArray) rfl rfl rfl rfl (.inr ⟨rfl, encCa (id, block, data), rfl, rfl, Ent.whole MM⟩) ?_
    refine WH.only 5 rfl rfl (by kernel_rfl) rfl (OP.call (pre := [rgateA g P.G]) rfl rfl hge' PS rfl rfl (fun x M hM => ?_))
    obtain ⟨rfl, rfl⟩ := hM
    refine ⟨(fun h => nomatch h), ?_⟩
    refine WP 6 ?_
    refine WP 7 ?_
    refine WP 8 ?_
    refine WP 9 ?_
    refine WP 10 ?_
    refine DN ?_
    refine WC.imp (M := [rpriA nd w (P.at_ now), rdsk w P.D, blk cb [.int .i64 id, .int .i64 block, .string data] rcT, F]) (Imp.trans II (Imp.trans (hfold [rdsk w P.D, blk cb [.int .i64 id, .int .i64 block, .string data] rcT, F]) II)) ?_
    have hdo' := hdo ⟨⟨by show 0 ≤ block; omega, by show block < 8; omega⟩, by show data.size ≤ 16; omega⟩
    cases hq : doP (P.at_ now) (id, block, data) with
    | error lc =>
      obtain ⟨l, k⟩ := lc
      rw [hq] at hdef hdo'
      dsimp only at hdef hdo'
      repeat (first | refine GD ?_ | refine NW fun _ => ?_)
      refine WL.step rfl (OP.call (pre := [rpriA nd w (P.at_ now), rdsk w P.D]) rfl rfl hdo' PS rfl rfl ?_)
      rintro _ _ ⟨rfl, rfl⟩
      repeat (first | refine GD ?_ | refine NW fun _ => ?_)
      exact ret2 rfl rfl ⟨[rpriA nd w (P.at_ now), rdsk w P.D], by rw [hdef]; exact ⟨rfl, rfl⟩, II⟩
    | ok y =>
      obtain ⟨k, P'⟩ := y
      rw [hq] at hdef hdo'
      dsimp only at hdef hdo'
      repeat (first | refine GD ?_ | refine NW fun _ => ?_)
      refine WL.step rfl (OP.call (pre := [rpriA nd w (P.at_ now), rdsk w P.D]) rfl rfl hdo' PS rfl rfl ?_)
      rintro _ _ ⟨rfl, rfl⟩
      repeat (first | refine GD ?_ | refine NW fun _ => ?_)
      exact ret2 rfl rfl ⟨[rpriA nd w P', rdsk w P'.D], by rw [hdef]; exact ⟨rfl, rfl⟩, II⟩
  rw [if_neg h0] at hdef
  by_cases h4 : 4 ≤ P.G.wait.length
  · rw [if_pos h4] at hdef
    have hge' : Triple G 56 [.pointer (some ⟨g, 0, none⟩), .agg #[.int .i64 id, .int .i64 block, .string data]] [rgateA g P.G] (fun v M => v = .tuple #[.bool false, .int .i64 7] ∧ M = [rgateA g P.G]) := hge.mono fun v M h => by
      rw [if_neg h0, if_pos h4] at h
      exact ⟨M, h, Imp.refl _⟩
    refine RD 5 11 (_) ?_
    refine WP 0 ?_
    refine WP 1 ?_
    refine WP 2 ?_
    refine VV 3 ?_
    refine VL 4 (.agg (encCa (id, block, data)).toArray) rfl rfl rfl rfl (.inr ⟨rfl, encCa (id, block, data), rfl, rfl, Ent.whole MM⟩) ?_
    refine WH.only 5 rfl rfl (by kernel_rfl) rfl (OP.call (pre := [rgateA g P.G]) rfl rfl hge' PS rfl rfl (fun x M hM => ?_))
    obtain ⟨rfl, rfl⟩ := hM
    refine ⟨(fun h => nomatch h), ?_⟩
    refine WP 6 ?_
    refine WP 7 ?_
    refine WP 8 ?_
    refine WP 9 ?_
    refine WP 10 ?_
    refine DN ?_
    repeat (first | refine GD ?_ | refine NW fun _ => ?_)
    exact ret2 rfl rfl ⟨[rpriA nd w (P.at_ now), rdsk w P.D], by rw [hdef]; exact ⟨rfl, rfl⟩, Imp.trans II (Imp.trans (hfold [rdsk w P.D, F]) II)⟩
  rw [if_neg h4] at hdef
  have hge' : Triple G 56 [.pointer (some ⟨g, 0, none⟩), .agg #[.int .i64 id, .int .i64 block, .string data]] [rgateA g P.G] (fun v M => v = .tuple #[.bool false, .int .i64 0] ∧ M = [rgateA g { P.G with wait := P.G.wait ++ [(id, block, data)] }]) := hge.mono fun v M h => by
    rw [if_neg h0, if_neg h4] at h
    exact ⟨M, h, Imp.refl _⟩
  refine RD 5 11 (_) ?_
  refine WP 0 ?_
  refine WP 1 ?_
  refine WP 2 ?_
  refine VV 3 ?_
  refine VL 4 (.agg (encCa (id, block, data)).toArray) rfl rfl rfl rfl (.inr ⟨rfl, encCa (id, block, data), rfl, rfl, Ent.whole MM⟩) ?_
  refine WH.only 5 rfl rfl (by kernel_rfl) rfl (OP.call (pre := [rgateA g P.G]) rfl rfl hge' PS rfl rfl (fun x M hM => ?_))
  obtain ⟨rfl, rfl⟩ := hM
  refine ⟨(fun h => nomatch h), ?_⟩
  refine WP 6 ?_
  refine WP 7 ?_
  refine WP 8 ?_
  refine WP 9 ?_
  refine WP 10 ?_
  refine DN ?_
  repeat (first | refine GD ?_ | refine NW fun _ => ?_)
  refine ret2 rfl rfl ⟨[rpriA nd w { P.at_ now with G := { P.G with wait := P.G.wait ++ [(id, block, data)] } }, rdsk w P.D], by rw [hdef]; exact ⟨rfl, rfl⟩, ?_⟩
  exact Imp.trans II (rpriFold nd w { P.at_ now with G := { P.G with wait := P.G.wait ++ [(id, block, data)] } } v g s (N := [rdsk w P.D, F]))
end Go.Proofs.YtanjfjiaheghcaaGreatDoor
/- Contracts of functions of the given program, and plain laws on what they compute: parts of the proofs of laws. -/

namespace Go.Proofs.YtanjfjiaheghcaaGreatDoor
open Go Go.GL

/-! the document's primary: Freeze, Mark, Ack -/
def RErPost (nd w : Nat) (R : Er × Pri) (x : Value) (M : List Assn) : Prop := x = .int .i64 (erC R.1) ∧ M = [rpriA nd w R.2, rdsk w R.2.D]
theorem rpriFoldG (nd w : Nat) (P : Pri) (v g s : Nat) (y : Option Addr × Nat) {N : List Assn} : Imp (blk g (gateC P.G y) rgT :: ownS y.1 P.G.wait.length y.2 rcT 3 (P.G.wait.flatMap encCa) :: blk nd (rndC w (.pointer (some ⟨v, 0, none⟩)) (.pointer (some ⟨g, 0, none⟩)) (.pointer (some ⟨s, 0, none⟩)) P.V.J.ring P.marked P.floor P.acked) rnT :: rvol v w P.V :: rsiteA s P.S :: N) (rpriA nd w P :: N) :=
  Imp.trans (rgateFold g P.G y) (Imp.trans (Imp.app (show Imp [rgateA g P.G, blk nd (rndC w (.pointer (some ⟨v, 0, none⟩)) (.pointer (some ⟨g, 0, none⟩)) (.pointer (some ⟨s, 0, none⟩)) P.V.J.ring P.marked P.floor P.acked) rnT, rvol v w P.V, rsiteA s P.S] [blk nd (rndC w (.pointer (some ⟨v, 0, none⟩)) (.pointer (some ⟨g, 0, none⟩)) (.pointer (some ⟨s, 0, none⟩)) P.V.J.ring P.marked P.floor P.acked) rnT, rvol v w P.V, rgateA g P.G, rsiteA s P.S] from II) N) (rpriFold nd w P v g s))
set_option maxHeartbeats 8000000 in
set_option maxRecDepth 10000 in
theorem rpfreeze_ok (nd w : Nat) (P : Pri) (B : Int) (I : PInv P B) (round : Int) : Triple G 19 [.pointer (some ⟨nd, 0, none⟩), .int .i64 round] [rpriA nd w P, rdsk w P.D] (RErPost nd w (freezeP P round)) := by
  refine Triple.enter Tryz.func19 rfl (by decide) rfl Tryz.ntmps19 rfl (fun F => ?_)
  refine WC.open (M := [rdsk w P.D, F]) (Ls := rpriL nd w P) II (fun x => ?_)
  obtain ⟨v, g, s⟩ := x
  have hw := widest_eq
  have hdef : freezeP P round = if widest < round then (some ([(primT, round)], 1), P)
    else match freezeG P.G round 6 with
    | .error c => (some ([(primT, round), (gateT, round)], c), P)
    | .ok g => (none, if P.floor < round then { P with G := g, floor := round, D := (P.D.put (P.V.J.ring + 10) (floorS round)).flush } else { P with G := g }) := rfl
  have hfr := I.fr
  have hr := I.V.j.ring
  have hlen := I.len
  have hgf := rgfreeze_ok g P.G round 6
  unfold RFreezeG at hgf
  have hfold := fun (N : List Assn) => rpriFold nd w P v g s (N := N)
  unfold RErPost
  unfold rpriL
  dsimp only [List.cons_append, List.nil_append]
  unfold rndC at *
  by_cases h1 : 1152921504606846975 < round
  · rw [if_pos (by omega)] at hdef
    repeat (first | refine GD ?_ | refine NW fun _ => ?_)
    exact ret1 rfl ⟨[rpriA nd w P, rdsk w P.D], by rw [hdef]; exact ⟨rfl, rfl⟩, Imp.trans II (Imp.trans (hfold [rdsk w P.D, F]) II)⟩
  rw [if_neg (by omega)] at hdef
  repeat (first | refine GD ?_ | refine NW fun _ => ?_)
  refine WL.step rfl (OP.call (pre := [rgateA g P.G]) rfl rfl hgf PS rfl rfl ?_)
  intro er M hM
  cases hq : freezeG P.G round 6 with
  | error c =>
    have hc0 : c ≠ 0 := by
      unfold freezeG at hq
      split at hq
      · cases hq; decide
      split at hq
      · cases hq; decide
      · cases hq
    rw [hq] at hM hdef
    obtain ⟨rfl, rfl⟩ := hM
    repeat (first | refine GD ?_ | refine NW fun _ => ?_)
    exact ret1 rfl ⟨[rpriA nd w P, rdsk w P.D], by rw [hdef]; exact ⟨rfl, rfl⟩, Imp.trans II (Imp.trans (hfold [rdsk w P.D, F]) II)⟩
  | ok g2 =>
    rw [hq] at hM hdef
    obtain ⟨rfl, rfl⟩ := hM
    dsimp only [List.cons_append, List.nil_append] at hdef ⊢
    have hr1 : 1 ≤ round := by
      unfold freezeG at hq
      split at hq
      · cases hq
      · rename_i h; omega
    by_cases h3 : P.floor < round
    rotate_left
    · rw [if_neg h3] at hdef
      repeat (first | refine GD ?_ | refine NW fun _ => ?_)
      refine ret1 rfl ⟨[rpriA nd w { P with G := g2 }, rdsk w P.D], by rw [hdef]; exact ⟨rfl, rfl⟩, ?_⟩
      exact Imp.trans II (rpriFold nd w { P with G := g2 } v g s (N := [rdsk w P.D, F]))
    rw [if_pos h3] at hdef
    have hfS : floorS round = sectorM (numB (clampN round)) := by unfold floorS; rw [if_neg (by omega)]
    have h64 : (sectorM (numB (clampN round))).length = 64 := sectorM_len (flB_len round)
    have he : (P.V.J.ring : Int) + 10 = (P.V.J.ring + 10 : Nat) := by omega
    have hwr := rdwrite_ok w P.D ((P.V.J.ring : Int) + 10) (sectorM (numB (clampN round))) (by rw [I.W]; decide)
    have het : ((P.V.J.ring : Int) + 10).toNat = P.V.J.ring + 10 := by omega
    have hfs := rfloor_ro round
    have hok : (P.D.put (P.V.J.ring + 10) (floorS round)).ok := Dsk.put_ok I.V.j.dok (by omega) (floorS_len round)
    have hfl := rdflush_ok w (P.D.put (P.V.J.ring + 10) (floorS round)) hok (by show (P.D.W ++ [_]).length < 1000000; rw [I.W]; exact (by decide : (0 + 1 : Nat) < 1000000))
    rw [← hfS] at hwr hfs h64
    generalize floorS round = fS at *
    repeat (first | refine GD ?_ | refine NW fun _ => ?_)
    refine RD 11 12 (_) ?_
    refine WP 0 ?_
    refine WP 1 ?_
    refine WP 2 ?_
    refine VV 3 ?_
    refine WP 4 ?_
    refine WP 5 ?_
    refine WP 6 ?_
    refine VV 7 ?_
    refine WP 8 ?_
    refine WP 9 ?_
    refine WH.only 10 rfl rfl (by kernel_rfl) rfl (OP.callRO rfl rfl (hfs) ((fun _ _ => trivial)) rfl rfl ⟨fun _ => II, ?_⟩)
    refine WH.only 11 rfl rfl (by kernel_rfl) rfl (OP.call (pre := [rdsk w P.D]) rfl rfl hwr PS rfl rfl (fun v M hM => ?_))
    unfold RWrPost at hM
    rw [if_pos ⟨by omega, h64⟩, het] at hM
    obtain ⟨rfl, rfl⟩ := hM
    refine ⟨(fun h => nomatch h), ?_⟩
    refine DN ?_
    repeat (first | refine GD ?_ | refine NW fun _ => ?_)
    refine WL.step rfl (OP.call (pre := [rdsk w (P.D.put (P.V.J.ring + 10) fS)]) rfl rfl hfl PS rfl rfl ?_)
    rintro _ _ ⟨rfl, rfl⟩
    repeat (first | refine GD ?_ | refine NW fun _ => ?_)
    refine ret1 rfl ⟨[rpriA nd w { P with G := g2, floor := round, D := (P.D.put (P.V.J.ring + 10) fS).flush }, rdsk w (P.D.put (P.V.J.ring + 10) fS).flush], by rw [hdef]; exact ⟨rfl, rfl⟩, ?_⟩
    exact Imp.trans II (rpriFold nd w { P with G := g2, floor := round, D := (P.D.put (P.V.J.ring + 10) fS).flush } v g s (N := [rdsk w (P.D.put (P.V.J.ring + 10) fS).flush, F]))
set_option maxHeartbeats 8000000 in
set_option maxRecDepth 10000 in
theorem rpmark_ok (nd w : Nat) (P : Pri) (B : Int) (I : PInv P B) (hB : B + 4 ≤ widest) (round : Int) : Triple G 21 [.pointer (some ⟨nd, 0, none⟩), .int .i64 round] [rpriA nd w P, rdsk w P.D] (RErPost nd w (markP P round)) := by
  refine Triple.enter Tryz.func21 rfl (by decide) rfl Tryz.ntmps21 rfl (fun F => ?_)
  refine WC.open (M := [rdsk w P.D, F]) (Ls := rpriL nd w P) II (fun x => ?_)
  obtain ⟨v, g, s⟩ := x
  have hdef : markP P round = if round < 1 ∨ P.G.round ≠ round then (some ([(primT, round)], 9), P)
    else if P.marked = round then (none, P)
    else match markV P.V P.D round with
    | .error (l, c) => (some ((primT, round) :: l, c), P)
    | .ok (V', D') => (none, { P with V := V', D := D'.flush, marked := round }) := rfl
  have hfr := I.fr
  have hrn := I.rnd
  have hmk := rvmark_ok v w P.V P.D round (I.rng (by omega)).J I.V.len (by rw [I.W]; decide)
  unfold RAppVP at hmk
  unfold RErPost
  unfold rpriL
  dsimp only [List.cons_append, List.nil_append]
  refine WC.open (M := [blk nd (rndC w (.pointer (some ⟨v, 0, none⟩)) (.pointer (some ⟨g, 0, none⟩)) (.pointer (some ⟨s, 0, none⟩)) P.V.J.ring P.marked P.floor P.acked) rnT, rvol v w P.V, rsiteA s P.S, rdsk w P.D, F]) (Ls := rgateL g P.G) II (fun y => ?_)
  have hfold := fun (N : List Assn) => rpriFoldG nd w P v g s y (N := N)
  unfold rgateL
  dsimp only [List.cons_append, List.nil_append]
  unfold rndC gateC at *
  by_cases h0 : round < 1
  · rw [if_pos (.inl h0)] at hdef
    repeat (first | refine GD ?_ | refine NW fun _ => ?_)
    exact ret1 rfl ⟨[rpriA nd w P, rdsk w P.D], by rw [hdef]; exact ⟨rfl, rfl⟩, Imp.trans II (Imp.trans (hfold [rdsk w P.D, F]) II)⟩
  by_cases h1 : P.G.round = round
  rotate_left
  · rw [if_pos (.inr h1)] at hdef
    repeat (first | refine GD ?_ | refine NW fun _ => ?_)
    exact ret1 rfl ⟨[rpriA nd w P, rdsk w P.D], by rw [hdef]; exact ⟨rfl, rfl⟩, Imp.trans II (Imp.trans (hfold [rdsk w P.D, F]) II)⟩
  rw [if_neg (fun h => by rcases h with h | h; exact h0 h; exact h h1)] at hdef
  by_cases h2 : P.marked = round
  · rw [if_pos h2] at hdef
    repeat (first | refine GD ?_ | refine NW fun _ => ?_)
    exact ret1 rfl ⟨[rpriA nd w P, rdsk w P.D], by rw [hdef]; exact ⟨rfl, rfl⟩, Imp.trans II (Imp.trans (hfold [rdsk w P.D, F]) II)⟩
  rw [if_neg h2] at hdef
  repeat (first | refine GD ?_ | refine NW fun _ => ?_)
  refine WL.step rfl (OP.call (pre := [rvol v w P.V, rdsk w P.D]) rfl rfl hmk PS rfl rfl ?_)
  intro er M hM
  rcases I.mark hB (n := round) (by omega) with ⟨_, hq⟩ | ⟨_, V', D', hq, _, _, _, _, e4, d1, d2, _⟩
  · rw [hq] at hM hdef
    obtain ⟨rfl, rfl⟩ := hM
    repeat (first | refine GD ?_ | refine NW fun _ => ?_)
    exact ret1 rfl ⟨[rpriA nd w P, rdsk w P.D], by rw [hdef]; exact ⟨rfl, rfl⟩, Imp.trans II (Imp.trans (hfold [rdsk w P.D, F]) II)⟩
  · rw [hq] at hM hdef
    obtain ⟨rfl, rfl⟩ := hM
    dsimp only [List.cons_append, List.nil_append] at hdef ⊢
    repeat (first | refine GD ?_ | refine NW fun _ => ?_)
    refine WL.step rfl (OP.call (pre := [rdsk w D']) rfl rfl (rdflush_ok w D' d1 (by omega)) PS rfl rfl ?_)
    rintro _ _ ⟨rfl, rfl⟩
    repeat (first | refine GD ?_ | refine NW fun _ => ?_)
    refine ret1 rfl ⟨[rpriA nd w { P with V := V', D := D'.flush, marked := round }, rdsk w D'.flush], by rw [hdef]; exact ⟨rfl, rfl⟩, ?_⟩
    have hf := rpriFoldG nd w { P with V := V', D := D'.flush, marked := round } v g s y (N := [rdsk w D'.flush, F])
    dsimp only at hf
    rw [e4] at hf
    exact Imp.trans II hf
set_option maxHeartbeats 8000000 in
set_option maxRecDepth 10000 in
theorem rpack_ok (nd w : Nat) (P : Pri) (B : Int) (I : PInv P B) (hB : B + 4 ≤ widest) (upto : Int) : Triple G 32 [.pointer (some ⟨nd, 0, none⟩), .int .i64 upto] [rpriA nd w P, rdsk w P.D] (RErPost nd w (ackP P upto)) := by
  refine Triple.enter Tryz.func32 rfl (by decide) rfl Tryz.ntmps32 rfl (fun F => ?_)
  refine WC.open (M := [rdsk w P.D, F]) (Ls := rpriL nd w P) II (fun x => ?_)
  obtain ⟨v, g, s⟩ := x
  have hdef : ackP P upto = if upto < 0 ∨ P.V.J.next ≤ upto then (some (([(primT, upto)], 5) : Er1), P)
    else if upto ≤ P.acked then (none, P)
    else match ckV P.V P.D upto with
      | .ok (V', D') => (none, { P with V := V', D := D', acked := upto })
      | .error _ => (none, P) := rfl
  have hV := I.rng (show B + 2 ≤ widest by omega)
  have hnx := fun j => rnext_ro j w P.V.J hV.J
  have hck := rvcheck_ok v w P.V P.D upto hV I.V.blks (fun x hx => right_block (I.V.j.right x hx)) I.V.j.seq I.V.j.dok I.V.len (by rw [I.W]; decide)
  unfold RCkVP at hck
  unfold RErPost
  unfold rpriL
  dsimp only [List.cons_append, List.nil_append]
  refine WC.imp (M := [rvol v w P.V, blk nd (rndC w (.pointer (some ⟨v, 0, none⟩)) (.pointer (some ⟨g, 0, none⟩)) (.pointer (some ⟨s, 0, none⟩)) P.V.J.ring P.marked P.floor P.acked) rnT, rgateA g P.G, rsiteA s P.S, rdsk w P.D, F]) II ?_
  refine WC.imp (rvolOut v w P.V) ?_
  refine WC.open (M := [blk nd (rndC w (.pointer (some ⟨v, 0, none⟩)) (.pointer (some ⟨g, 0, none⟩)) (.pointer (some ⟨s, 0, none⟩)) P.V.J.ring P.marked P.floor P.acked) rnT, rgateA g P.G, rsiteA s P.S, rdsk w P.D, F]) (Ls := fun j : Nat => [blk v (rvolC w j P.V.J.ring P.V.laid) 84, rjrn j w P.V.J]) II (fun j => ?_)
  have hback := fun (N : List Assn) => rvolFold v w P.V j (N := N)
  have hfold := fun (N : List Assn) => rpriFold nd w P v g s (N := N)
  dsimp only [List.cons_append, List.nil_append]
  unfold rndC at *
  by_cases h0 : upto < 0
  · rw [if_pos (.inl h0)] at hdef
    repeat (first | refine GD ?_ | refine NW fun _ => ?_)
    exact ret1 rfl ⟨[rpriA nd w P, rdsk w P.D], by rw [hdef]; exact ⟨rfl, rfl⟩, Imp.trans II (Imp.trans (hback [blk nd [.pointer (some ⟨w, 0, none⟩), .pointer (some ⟨v, 0, none⟩), .pointer (some ⟨g, 0, none⟩), .pointer (some ⟨s, 0, none⟩), .int .i64 P.V.J.ring, .int .i64 P.marked, .int .i64 P.floor, .int .i64 P.acked] rnT, rgateA g P.G, rsiteA s P.S, rdsk w P.D, F]) (Imp.trans II (Imp.trans (hfold [rdsk w P.D, F]) II)))⟩
  repeat (first | refine GD ?_ | refine NW fun _ => ?_)
  refine WL.guardT rfl rfl rfl rfl (OP.callRO rfl rfl (hnx j) (Ent.at (up_rjrn _ _ _) MM) rfl rfl ?_)
  by_cases h1 : P.V.J.next ≤ upto
  · rw [if_pos (.inr h1)] at hdef
    repeat (first | refine GD ?_ | refine NW fun _ => ?_)
    exact ret1 rfl ⟨[rpriA nd w P, rdsk w P.D], by rw [hdef]; exact ⟨rfl, rfl⟩, Imp.trans II (Imp.trans (hback [blk nd [.pointer (some ⟨w, 0, none⟩), .pointer (some ⟨v, 0, none⟩), .pointer (some ⟨g, 0, none⟩), .pointer (some ⟨s, 0, none⟩), .int .i64 P.V.J.ring, .int .i64 P.marked, .int .i64 P.floor, .int .i64 P.acked] rnT, rgateA g P.G, rsiteA s P.S, rdsk w P.D, F]) (Imp.trans II (Imp.trans (hfold [rdsk w P.D, F]) II)))⟩
  have hn : ¬ (upto < 0 ∨ P.V.J.next ≤ upto) := fun h => by rcases h with h | h; exact h0 h; exact h1 h
  rw [if_neg hn] at hdef
  by_cases h2 : upto ≤ P.acked
  · rw [if_pos h2] at hdef
    have h2' : ¬ P.acked < upto := by omega
    repeat (first | refine GD ?_ | refine NW fun _ => ?_)
    exact ret1 rfl ⟨[rpriA nd w P, rdsk w P.D], by rw [hdef]; exact ⟨rfl, rfl⟩, Imp.trans II (Imp.trans (hback [blk nd [.pointer (some ⟨w, 0, none⟩), .pointer (some ⟨v, 0, none⟩), .pointer (some ⟨g, 0, none⟩), .pointer (some ⟨s, 0, none⟩), .int .i64 P.V.J.ring, .int .i64 P.marked, .int .i64 P.floor, .int .i64 P.acked] rnT, rgateA g P.G, rsiteA s P.S, rdsk w P.D, F]) (Imp.trans II (Imp.trans (hfold [rdsk w P.D, F]) II)))⟩
  rw [if_neg h2] at hdef
  have h2' : P.acked < upto := by omega
  obtain ⟨V', D', hq, _, _, e2, _⟩ := I.ackd hB hn h2
  rw [hq] at hdef hck
  dsimp only at hdef hck
  repeat (first | refine GD ?_ | refine NW fun _ => ?_)
  refine WL.imp (M := [rvol v w P.V, blk nd [.pointer (some ⟨w, 0, none⟩), .pointer (some ⟨v, 0, none⟩), .pointer (some ⟨g, 0, none⟩), .pointer (some ⟨s, 0, none⟩), .int .i64 P.V.J.ring, .int .i64 P.marked, .int .i64 P.floor, .int .i64 upto] rnT, rgateA g P.G, rsiteA s P.S, rdsk w P.D, F]) (Imp.trans II (hback [blk nd [.pointer (some ⟨w, 0, none⟩), .pointer (some ⟨v, 0, none⟩), .pointer (some ⟨g, 0, none⟩), .pointer (some ⟨s, 0, none⟩), .int .i64 P.V.J.ring, .int .i64 P.marked, .int .i64 P.floor, .int .i64 upto] rnT, rgateA g P.G, rsiteA s P.S, rdsk w P.D, F])) ?_
  refine WL.step rfl (OP.call (pre := [rvol v w P.V, rdsk w P.D]) rfl rfl hck PS rfl rfl ?_)
  rintro _ _ ⟨rfl, rfl⟩
  dsimp only [List.cons_append, List.nil_append]
  repeat (first | refine GD ?_ | refine NW fun _ => ?_)
  refine ret1 rfl ⟨[rpriA nd w { P with V := V', D := D', acked := upto }, rdsk w D'], by rw [hdef]; exact ⟨rfl, rfl⟩, ?_⟩
  have hf := rpriFold nd w { P with V := V', D := D', acked := upto } v g s (N := [rdsk w D', F])
  dsimp only at hf
  rw [e2] at hf
  exact Imp.trans II hf
end Go.Proofs.YtanjfjiaheghcaaGreatDoor
/- Contracts of functions of the given program, and plain laws on what they compute: parts of the proofs of laws. -/

namespace Go.Proofs.YtanjfjiaheghcaaGreatDoor
open Go Go.GL

/-! the document's primary: writes that waited pass -/
abbrev rdT : TypeId := 134
def RDonesA (l : List Dn) (v : Value) (E : List Assn) : Prop := ∃ a cap, v = .slice a l.length cap ∧ E = [ownS a l.length cap rdT 3 (l.flatMap encDn)]
set_option maxHeartbeats 16000000 in
set_option maxRecDepth 10000 in
theorem rplet_ok (nd w : Nat) (P : Pri) (B : Int) (now : Int) (a : Option Addr) (cap : Nat) (l : List Call) (I : PInv P B) (hB : B + 2 * l.length + 4 ≤ widest) (hl : ∀ c ∈ l, RightC c) (hl4 : l.length ≤ 4) :
    Triple G 75 [.pointer (some ⟨nd, 0, none⟩), .slice a l.length cap, .int .i64 now] [ownS a l.length cap rcT 3 (l.flatMap encCa), rpriA nd w P, rdsk w P.D]
      (fun v M => ∃ E, RDonesA (letP P now l).1 v E ∧ M = E ++ [rpriA nd w (letP P now l).2, rdsk w (letP P now l).2.D]) := by
  refine Triple.enter Tryz.func75 rfl (by decide) rfl Tryz.ntmps75 rfl (fun F => ?_)
  repeat (first | refine GD ?_ | refine NW fun _ => ?_)
  refine WC.imp (Imp.nilS rdT 3) ?_
  refine WC.loop (σ := Nat × Option Addr × Nat) (fun s => s.1 ≤ l.length)
    (fun s => [(0, .val (.pointer (some ⟨nd, 0, none⟩))), (1, .val (.slice a l.length cap)), (2, .val (.int .i64 now)), (7, .val (.slice s.2.1 s.1 s.2.2)), (11, .val (.int .i64 l.length)), (12, .val (.int .i64 s.1))])
    (fun s => [ownS s.2.1 s.1 s.2.2 rdT 3 ((letP P now (l.take s.1)).1.flatMap encDn), ownS a l.length cap rcT 3 (l.flatMap encCa), rpriA nd w (letP P now (l.take s.1)).2, rdsk w (letP P now (l.take s.1)).2.D, F]) (fun s => l.length - s.1)
    (0, none, 0) (Nat.zero_le _) ⟨rfl, rfl, rfl, rfl, rfl, rfl, trivial⟩ (Imp.trans (Imp.refl _) II) ?_
  rintro ⟨k, ar, cr⟩ hk
  dsimp only at hk ⊢
  by_cases hlt : k < l.length
  rotate_left
  · have he : k = l.length := by omega
    subst he
    rw [List.take_length]
    repeat (first | refine GD ?_ | refine NW fun _ => ?_)
    have hln := letP_len P now l
    refine ret1 rfl ⟨_, ⟨_, ⟨ar, cr, by rw [hln], rfl⟩, rfl⟩, ?_⟩
    rw [hln]
    exact II
  obtain ⟨I1, K1⟩ := I.letK (now := now) (by omega) hl k hk
  have hln : (letP P now (l.take k)).1.length = k := by rw [letP_len, List.length_take]; omega
  have hsn : letP P now (l.take (k + 1)) = ((letP P now (l.take k)).1 ++ [(let1 (letP P now (l.take k)).2 l[k] now).1], (let1 (letP P now (l.take k)).2 l[k] now).2) := by
    rw [← List.take_append_getElem hlt, letP_snoc]
  have hrc := hl _ (List.getElem_mem hlt)
  generalize letP P now (l.take k) = st at *
  obtain ⟨ds, Pa⟩ := st
  dsimp only at I1 K1 hln hsn ⊢
  refine WC.fact (Ent.some (Ent.own (a := a) (n := l.length) (cap := cap) (T := rcT) (size := 3) (cs := l.flatMap encCa) MM) (by omega)) ?_
  rintro ⟨b, off, rfl⟩
  refine WC.open (M := [ownS ar k cr rdT 3 (ds.flatMap encDn), ownS (some ⟨b, off, none⟩) l.length cap rcT 3 (l.flatMap encCa), rdsk w Pa.D, F]) (Ls := rpriL nd w Pa) II (fun x => ?_)
  obtain ⟨v, g, s⟩ := x
  have hfold := fun (N : List Assn) => rpriFold nd w (Pa.at_ now) v g s (N := N)
  have hck := rlcheck_ok s Pa.S Pa.S.epoch now
  unfold rpriL
  dsimp only [List.cons_append, List.nil_append]
  unfold rndC at *
  have helA : ∀ {L : List Assn}, ownS (some ⟨b, off, none⟩) l.length cap rcT 3 (l.flatMap encCa) ∈ L → Ent L (cellsAt b (off + k * 3) (encCa l[k])) := fun m => Ent.elA (f := encCa) encCa_len (Ent.own (T := rcT) m) hlt
  have helI : ∀ {L : List Assn}, ownS (some ⟨b, off, none⟩) l.length cap rcT 3 (l.flatMap encCa) ∈ L → Ent L (cellAt b (off + k * 3) (.int .i64 (l[k]).1)) := fun m => by
    have h := Ent.elF (f := encCa) encCa_len (l := l) (k := k) (j := 0) (v := .int .i64 (l[k]).1) (Ent.own (T := rcT) m) hlt rfl rfl
    rwa [Nat.add_zero] at h
  generalize l[k] = c at *
  have hdef : let1 Pa c now = match checkS Pa.S Pa.S.epoch now with
    | some k => ((c.1, 0, k), Pa.at_ now)
    | none => match doP (Pa.at_ now) c with
      | .error (_, k) => ((c.1, 0, k), Pa.at_ now)
      | .ok (k, P') => ((c.1, k, 0), P') := rfl
  have hdo := rpdo_ok nd w (Pa.at_ now) (B + 2 * k) (I1.at_ now) (by omega) c hrc (fun l k h => doP_ne (now := now) I1 (by omega) hrc h)
  unfold RDoPost at hdo
  obtain ⟨id, block, data⟩ := c
  rw [show encCa (id, block, data) = [.int .i64 id, .int .i64 block, .string data] from rfl] at *
  dsimp only at hdef helI
  rw [show rsiteA s Pa.S = blk s [.int .i64 Pa.S.epoch, .int .i64 Pa.S.til, .int .i64 Pa.S.now] rsT from rfl] at hck ⊢
  repeat (first | refine GD ?_ | refine NW fun _ => ?_)
  have hcell : ∀ (n1 : Int) (N : List Assn), Imp (blk s [.int .i64 Pa.S.epoch, .int .i64 Pa.S.til, .int .i64 n1] rsT :: N) (cellAt s 0 (.int .i64 Pa.S.epoch) :: N) := fun n1 N h st => stars_head_mono (fun h' hb => (Ent.blk (T := rsT) (c := [.int .i64 Pa.S.epoch, .int .i64 Pa.S.til, .int .i64 n1]) (List.Mem.head _) rfl : Ent [blk s [.int .i64 Pa.S.epoch, .int .i64 Pa.S.til, .int .i64 n1] rsT] (cellAt s 0 (.int .i64 Pa.S.epoch))) h' (stars_sing hb)) st
  have hSimp := fun (n1 : Int) => hcell n1 [ownS (some ⟨b, off, none⟩) l.length cap rcT 3 (l.flatMap encCa), blk nd [.pointer (some ⟨w, 0, none⟩), .pointer (some ⟨v, 0, none⟩), .pointer (some ⟨g, 0, none⟩), .pointer (some ⟨s, 0, none⟩), .int .i64 Pa.V.J.ring, .int .i64 Pa.marked, .int .i64 Pa.floor, .int .i64 Pa.acked] rnT]
  cases hk : checkS Pa.S Pa.S.epoch now with
  | some kc =>
    have hkn := checkS_ne hk
    rw [hk] at hdef hck
    rw [show cdO (some kc) = .int .i64 kc from rfl] at hck
    dsimp only at hdef
    refine RD 20 21 _ ?_ rfl (Imp.trans II (hSimp Pa.S.now))
    refine WP 0 ?_
    refine WP 1 ?_
    refine WP 2 ?_
    refine WP 3 ?_
    refine VL 4 (.int .i64 id) rfl rfl rfl rfl (.inl ⟨rfl, helI MM⟩) ?_
    refine WP 5 ?_
    refine WP 6 ?_
    refine WP 7 ?_
    refine VV 8 ?_
    refine WP 9 ?_
    refine WP 10 ?_
    refine WP 11 ?_
    refine VV 12 ?_
    refine WP 13 ?_
    refine WP 14 ?_
    refine VL 15 (.int .i64 Pa.S.epoch) rfl rfl rfl rfl (.inl ⟨rfl, Ent.mem (A := cellAt s 0 (.int .i64 Pa.S.epoch)) MM (up_cellAt _ _ _) (fun _ h => h)⟩) ?_
    refine WP 16 ?_
    refine WH.two 17 19 rfl rfl rfl rfl (by kernel_rfl) rfl rfl ?_ ?_
    · refine OP.call (pre := [blk s [.int .i64 Pa.S.epoch, .int .i64 Pa.S.til, .int .i64 Pa.S.now] rsT]) rfl rfl hck PS rfl rfl (fun v M hM => ?_)
      obtain ⟨rfl, rfl⟩ := hM
      refine ⟨fun _ => Imp.trans II (hSimp (Pa.S.at_ now).now), ?_⟩
      refine VQ 18 rfl (Quiet.build rfl rfl) ?_
      refine WH.only 19 rfl rfl (by kernel_rfl) rfl (OP.alloc rfl rfl rfl rfl rfl (fun bt => ⟨fun _ => Imp.trans II (hSimp (Pa.S.at_ now).now), ?_⟩))
      refine WH.only 20 rfl rfl (by kernel_rfl) rfl (OP.store rfl rfl rfl rfl rfl rfl rfl UP rfl ⟨(fun h => nomatch h), ?_⟩)
      refine DN ?_
      refine WC.imp (M := [blk bt [.int .i64 id, .int .i64 0, .int .i64 kc] rdT, ownS ar k cr rdT 3 (ds.flatMap encDn), ownS (some ⟨b, off, none⟩) l.length cap rcT 3 (l.flatMap encCa), rpriA nd w (Pa.at_ now), rdsk w Pa.D, F]) (Imp.trans II (Imp.trans (hfold [blk bt [.int .i64 id, .int .i64 0, .int .i64 kc] rdT, ownS ar k cr rdT 3 (ds.flatMap encDn), ownS (some ⟨b, off, none⟩) l.length cap rcT 3 (l.flatMap encCa), rdsk w Pa.D, F]) II)) ?_
      repeat (first | refine GD ?_ | refine NW fun _ => ?_)
      refine WL.step rfl (OP.append (ds := encDn (id, 0, kc)) rfl rfl rfl rfl rfl rfl rfl rfl rfl (show Imp _ (ownS ar k cr rdT 3 (ds.flatMap encDn) :: _) from P1) (Ent.own (T := rdT) MM) rfl (by omega) (by omega) rfl rfl (fun a' cap' => ?_))
      repeat (first | refine GD ?_ | refine NW fun _ => ?_)
      refine ⟨(k + 1, a', cap'), hlt, by dsimp only; omega, ⟨rfl, rfl, rfl, rfl, rfl, rfl, trivial⟩, ?_⟩
      dsimp only
      rw [hsn, hdef]
      dsimp only
      rw [List.flatMap_append, List.flatMap_cons, List.flatMap_nil, List.append_nil]
      exact II
    · refine OP.alloc rfl rfl rfl rfl rfl (fun bt => ⟨fun _ => Imp.trans II (hSimp Pa.S.now), ?_⟩)
      refine WH.only 17 rfl rfl (by kernel_rfl) rfl (OP.call (pre := [blk s [.int .i64 Pa.S.epoch, .int .i64 Pa.S.til, .int .i64 Pa.S.now] rsT]) rfl rfl hck PS rfl rfl (fun v M hM => ?_))
      obtain ⟨rfl, rfl⟩ := hM
      refine ⟨fun _ => Imp.trans II (hSimp (Pa.S.at_ now).now), ?_⟩
      refine VQ 18 rfl (Quiet.build rfl rfl) ?_
      refine WH.only 20 rfl rfl (by kernel_rfl) rfl (OP.store rfl rfl rfl rfl rfl rfl rfl UP rfl ⟨(fun h => nomatch h), ?_⟩)
      refine DN ?_
      refine WC.imp (M := [blk bt [.int .i64 id, .int .i64 0, .int .i64 kc] rdT, ownS ar k cr rdT 3 (ds.flatMap encDn), ownS (some ⟨b, off, none⟩) l.length cap rcT 3 (l.flatMap encCa), rpriA nd w (Pa.at_ now), rdsk w Pa.D, F]) (Imp.trans II (Imp.trans (hfold [blk bt [.int .i64 id, .int .i64 0, .int .i64 kc] rdT, ownS ar k cr rdT 3 (ds.flatMap encDn), ownS (some ⟨b, off, none⟩) l.length cap rcT 3 (l.flatMap encCa), rdsk w Pa.D, F]) II)) ?_
      repeat (first | refine GD ?_ | refine NW fun _ => ?_)
      refine WL.step rfl (OP.append (ds := encDn (id, 0, kc)) rfl rfl rfl rfl rfl rfl rfl rfl rfl (show Imp _ (ownS ar k cr rdT 3 (ds.flatMap encDn) :: _) from P1) (Ent.own (T := rdT) MM) rfl (by omega) (by omega) rfl rfl (fun a' cap' => ?_))
      repeat (first | refine GD ?_ | refine NW fun _ => ?_)
      refine ⟨(k + 1, a', cap'), hlt, by dsimp only; omega, ⟨rfl, rfl, rfl, rfl, rfl, rfl, trivial⟩, ?_⟩
      dsimp only
      rw [hsn, hdef]
      dsimp only
      rw [List.flatMap_append, List.flatMap_cons, List.flatMap_nil, List.append_nil]
      exact II
  | none =>
    rw [hk] at hdef hck
    rw [show cdO none = .int .i64 0 from rfl] at hck
    dsimp only at hdef
    refine RD 20 21 _ ?_ rfl (Imp.trans II (hSimp Pa.S.now))
    refine WP 0 ?_
    refine WP 1 ?_
    refine WP 2 ?_
    refine WP 3 ?_
    refine VL 4 (.int .i64 id) rfl rfl rfl rfl (.inl ⟨rfl, helI MM⟩) ?_
    refine WP 5 ?_
    refine WP 6 ?_
    refine WP 7 ?_
    refine VV 8 ?_
    refine WP 9 ?_
    refine WP 10 ?_
    refine WP 11 ?_
    refine VV 12 ?_
    refine WP 13 ?_
    refine WP 14 ?_
    refine VL 15 (.int .i64 Pa.S.epoch) rfl rfl rfl rfl (.inl ⟨rfl, Ent.mem (A := cellAt s 0 (.int .i64 Pa.S.epoch)) MM (up_cellAt _ _ _) (fun _ h => h)⟩) ?_
    refine WP 16 ?_
    refine WH.two 17 19 rfl rfl rfl rfl (by kernel_rfl) rfl rfl ?_ ?_
    · refine OP.call (pre := [blk s [.int .i64 Pa.S.epoch, .int .i64 Pa.S.til, .int .i64 Pa.S.now] rsT]) rfl rfl hck PS rfl rfl (fun v M hM => ?_)
      obtain ⟨rfl, rfl⟩ := hM
      refine ⟨fun _ => Imp.trans II (hSimp (Pa.S.at_ now).now), ?_⟩
      refine VQ 18 rfl (Quiet.build rfl rfl) ?_
      refine WH.only 19 rfl rfl (by kernel_rfl) rfl (OP.alloc rfl rfl rfl rfl rfl (fun bt => ⟨fun _ => Imp.trans II (hSimp (Pa.S.at_ now).now), ?_⟩))
      refine WH.only 20 rfl rfl (by kernel_rfl) rfl (OP.store rfl rfl rfl rfl rfl rfl rfl UP rfl ⟨(fun h => nomatch h), ?_⟩)
      refine DN ?_
      refine WC.imp (M := [blk bt [.int .i64 id, .int .i64 0, .int .i64 0] rdT, ownS ar k cr rdT 3 (ds.flatMap encDn), ownS (some ⟨b, off, none⟩) l.length cap rcT 3 (l.flatMap encCa), rpriA nd w (Pa.at_ now), rdsk w Pa.D, F]) (Imp.trans II (Imp.trans (hfold [blk bt [.int .i64 id, .int .i64 0, .int .i64 0] rdT, ownS ar k cr rdT 3 (ds.flatMap encDn), ownS (some ⟨b, off, none⟩) l.length cap rcT 3 (l.flatMap encCa), rdsk w Pa.D, F]) II)) ?_
      repeat (first | refine GD ?_ | refine NW fun _ => ?_)
      refine WL.step rfl (OP.loadA (l := [.int .i64 id, .int .i64 block, .string data]) rfl rfl rfl rfl (helA MM) rfl rfl rfl ?_)
      repeat (first | refine GD ?_ | refine NW fun _ => ?_)
      cases hq : doP (Pa.at_ now) (id, block, data) with
      | error lc =>
        obtain ⟨le, kc⟩ := lc
        rw [hq] at hdo hdef
        dsimp only at hdo hdef
        refine WL.step rfl (OP.call (pre := [rpriA nd w (Pa.at_ now), rdsk w Pa.D]) rfl rfl hdo PS rfl rfl ?_)
        rintro _ _ ⟨rfl, rfl⟩
        dsimp only [List.cons_append, List.nil_append]
        repeat (first | refine GD ?_ | refine NW fun _ => ?_)
        refine WL.step rfl (OP.append (ds := encDn (id, 0, kc)) rfl rfl rfl rfl rfl rfl rfl rfl rfl (show Imp _ (ownS ar k cr rdT 3 (ds.flatMap encDn) :: _) from P1) (Ent.own (T := rdT) MM) rfl (by omega) (by omega) rfl rfl (fun a' cap' => ?_))
        repeat (first | refine GD ?_ | refine NW fun _ => ?_)
        refine ⟨(k + 1, a', cap'), hlt, by dsimp only; omega, ⟨rfl, rfl, rfl, rfl, rfl, rfl, trivial⟩, ?_⟩
        dsimp only
        rw [hsn, hdef]
        dsimp only
        rw [List.flatMap_append, List.flatMap_cons, List.flatMap_nil, List.append_nil]
        exact II
      | ok y =>
        obtain ⟨kn, Pb⟩ := y
        rw [hq] at hdo hdef
        dsimp only at hdo hdef
        refine WL.step rfl (OP.call (pre := [rpriA nd w (Pa.at_ now), rdsk w Pa.D]) rfl rfl hdo PS rfl rfl ?_)
        rintro _ _ ⟨rfl, rfl⟩
        dsimp only [List.cons_append, List.nil_append]
        repeat (first | refine GD ?_ | refine NW fun _ => ?_)
        refine WL.step rfl (OP.append (ds := encDn (id, kn, 0)) rfl rfl rfl rfl rfl rfl rfl rfl rfl (show Imp _ (ownS ar k cr rdT 3 (ds.flatMap encDn) :: _) from P1) (Ent.own (T := rdT) MM) rfl (by omega) (by omega) rfl rfl (fun a' cap' => ?_))
        repeat (first | refine GD ?_ | refine NW fun _ => ?_)
        refine ⟨(k + 1, a', cap'), hlt, by dsimp only; omega, ⟨rfl, rfl, rfl, rfl, rfl, rfl, trivial⟩, ?_⟩
        dsimp only
        rw [hsn, hdef]
        dsimp only
        rw [List.flatMap_append, List.flatMap_cons, List.flatMap_nil, List.append_nil]
        exact II
    · refine OP.alloc rfl rfl rfl rfl rfl (fun bt => ⟨fun _ => Imp.trans II (hSimp Pa.S.now), ?_⟩)
      refine WH.only 17 rfl rfl (by kernel_rfl) rfl (OP.call (pre := [blk s [.int .i64 Pa.S.epoch, .int .i64 Pa.S.til, .int .i64 Pa.S.now] rsT]) rfl rfl hck PS rfl rfl (fun v M hM => ?_))
      obtain ⟨rfl, rfl⟩ := hM
      refine ⟨fun _ => Imp.trans II (hSimp (Pa.S.at_ now).now), ?_⟩
      refine VQ 18 rfl (Quiet.build rfl rfl) ?_
      refine WH.only 20 rfl rfl (by kernel_rfl) rfl (OP.store rfl rfl rfl rfl rfl rfl rfl UP rfl ⟨(fun h => nomatch h), ?_⟩)
      refine DN ?_
      refine WC.imp (M := [blk bt [.int .i64 id, .int .i64 0, .int .i64 0] rdT, ownS ar k cr rdT 3 (ds.flatMap encDn), ownS (some ⟨b, off, none⟩) l.length cap rcT 3 (l.flatMap encCa), rpriA nd w (Pa.at_ now), rdsk w Pa.D, F]) (Imp.trans II (Imp.trans (hfold [blk bt [.int .i64 id, .int .i64 0, .int .i64 0] rdT, ownS ar k cr rdT 3 (ds.flatMap encDn), ownS (some ⟨b, off, none⟩) l.length cap rcT 3 (l.flatMap encCa), rdsk w Pa.D, F]) II)) ?_
      repeat (first | refine GD ?_ | refine NW fun _ => ?_)
      refine WL.step rfl (OP.loadA (l := [.int .i64 id, .int .i64 block, .string data]) rfl rfl rfl rfl (helA MM) rfl rfl rfl ?_)
      repeat (first | refine GD ?_ | refine NW fun _ => ?_)
      cases hq : doP (Pa.at_ now) (id, block, data) with
      | error lc =>
        obtain ⟨le, kc⟩ := lc
        rw [hq] at hdo hdef
        dsimp only at hdo hdef
        refine WL.step rfl (OP.call (pre := [rpriA nd w (Pa.at_ now), rdsk w Pa.D]) rfl rfl hdo PS rfl rfl ?_)
        rintro _ _ ⟨rfl, rfl⟩
        dsimp only [List.cons_append, List.nil_append]
        repeat (first | refine GD ?_ | refine NW fun _ => ?_)
        refine WL.step rfl (OP.append (ds := encDn (id, 0, kc)) rfl rfl rfl rfl rfl rfl rfl rfl rfl (show Imp _ (ownS ar k cr rdT 3 (ds.flatMap encDn) :: _) from P1) (Ent.own (T := rdT) MM) rfl (by omega) (by omega) rfl rfl (fun a' cap' => ?_))
        repeat (first | refine GD ?_ | refine NW fun _ => ?_)
        refine ⟨(k + 1, a', cap'), hlt, by dsimp only; omega, ⟨rfl, rfl, rfl, rfl, rfl, rfl, trivial⟩, ?_⟩
        dsimp only
        rw [hsn, hdef]
        dsimp only
        rw [List.flatMap_append, List.flatMap_cons, List.flatMap_nil, List.append_nil]
        exact II
      | ok y =>
        obtain ⟨kn, Pb⟩ := y
        rw [hq] at hdo hdef
        dsimp only at hdo hdef
        refine WL.step rfl (OP.call (pre := [rpriA nd w (Pa.at_ now), rdsk w Pa.D]) rfl rfl hdo PS rfl rfl ?_)
        rintro _ _ ⟨rfl, rfl⟩
        dsimp only [List.cons_append, List.nil_append]
        repeat (first | refine GD ?_ | refine NW fun _ => ?_)
        refine WL.step rfl (OP.append (ds := encDn (id, kn, 0)) rfl rfl rfl rfl rfl rfl rfl rfl rfl (show Imp _ (ownS ar k cr rdT 3 (ds.flatMap encDn) :: _) from P1) (Ent.own (T := rdT) MM) rfl (by omega) (by omega) rfl rfl (fun a' cap' => ?_))
        repeat (first | refine GD ?_ | refine NW fun _ => ?_)
        refine ⟨(k + 1, a', cap'), hlt, by dsimp only; omega, ⟨rfl, rfl, rfl, rfl, rfl, rfl, trivial⟩, ?_⟩
        dsimp only
        rw [hsn, hdef]
        dsimp only
        rw [List.flatMap_append, List.flatMap_cons, List.flatMap_nil, List.append_nil]
        exact II
def RThawPost (nd w : Nat) (R : List Dn × Er × Pri) (x : Value) (M : List Assn) : Prop := ∃ d E, RDonesA R.1 d E ∧ x = .tuple #[d, .int .i64 (erC R.2.1)] ∧ M = E ++ [rpriA nd w R.2.2, rdsk w R.2.2.D]
set_option maxHeartbeats 8000000 in
set_option maxRecDepth 10000 in
theorem rpthaw_ok (nd w : Nat) (P : Pri) (B : Int) (I : PInv P B) (hB : B + 12 ≤ widest) (round now : Int) :
    Triple G 23 [.pointer (some ⟨nd, 0, none⟩), .int .i64 round, .int .i64 now] [rpriA nd w P, rdsk w P.D] (RThawPost nd w (thawP P round now)) := by
  refine Triple.enter Tryz.func23 rfl (by decide) rfl Tryz.ntmps23 rfl (fun F => ?_)
  refine WC.open (M := [rdsk w P.D, F]) (Ls := rpriL nd w P) II (fun x => ?_)
  obtain ⟨v, g, s⟩ := x
  have hdef : thawP P round now = match thawG P.G round with
    | .error c => ([], some ([(primT, round), (gateT, round)], c), P)
    | .ok (l, g) => ((letP { P with G := g } now l).1, none, (letP { P with G := g } now l).2) := rfl
  have hgt := rgthaw_ok g P.G round
  unfold RThawG at hgt
  unfold rpriL
  dsimp only [List.cons_append, List.nil_append]
  have hfold := fun (G' : Gt) (N : List Assn) => rpriFold nd w { P with G := G' } v g s (N := N)
  have hfew := I.few
  unfold rndC at *
  dsimp only at hfold
  repeat (first | refine GD ?_ | refine NW fun _ => ?_)
  refine WL.step rfl (OP.call (pre := [rgateA g P.G]) rfl rfl hgt PS rfl rfl ?_)
  intro xv M hM
  cases hq : thawG P.G round with
  | error c =>
    rw [hq] at hM hdef
    obtain ⟨rfl, rfl⟩ := hM
    have hlt := rplet_ok nd w P B now none 0 [] I (by show B + 0 + 4 ≤ widest; omega) (fun _ h => nomatch h) (Nat.zero_le _)
    repeat (first | refine GD ?_ | refine NW fun _ => ?_)
    refine WL.imp (M := [ownS none 0 0 rcT 3 (([] : List Call).flatMap encCa), rpriA nd w P, rdsk w P.D, F]) (Imp.trans (Imp.nilS rcT 3) (Imp.trans II (Imp.trans (hfold P.G [ownS none 0 0 rcT 3 (([] : List Call).flatMap encCa), rdsk w P.D, F]) II))) ?_
    refine WL.step rfl (OP.call (pre := [ownS none 0 0 rcT 3 (([] : List Call).flatMap encCa), rpriA nd w P, rdsk w P.D]) rfl rfl hlt PS rfl rfl ?_)
    rintro _ _ ⟨E, ⟨a', cap', rfl, rfl⟩, rfl⟩
    dsimp only [List.cons_append, List.nil_append]
    repeat (first | refine GD ?_ | refine NW fun _ => ?_)
    exact ret2 rfl rfl ⟨[ownS a' 0 cap' rdT 3 (([] : List Dn).flatMap encDn)] ++ [rpriA nd w P, rdsk w P.D], by unfold RThawPost; rw [hdef]; exact ⟨_, _, ⟨a', cap', rfl, rfl⟩, rfl, rfl⟩, II⟩
  | ok y =>
    obtain ⟨l, g2⟩ := y
    rw [hq] at hM hdef
    obtain ⟨xl, E, ⟨al, cl, rfl, rfl⟩, rfl, rfl⟩ := hM
    have hl : l = P.G.wait ∧ g2 = P.G.opened := by
      unfold thawG at hq
      split at hq
      · cases hq
      · cases hq; exact ⟨rfl, rfl⟩
    obtain ⟨rfl, rfl⟩ := hl
    have hlt := rplet_ok nd w { P with G := P.G.opened } B now al cl P.G.wait I.opened (by omega) I.wr hfew
    dsimp only [List.cons_append, List.nil_append] at hlt hdef ⊢
    generalize P.G.opened = G2 at *
    generalize letP { P with G := G2 } now P.G.wait = R at *
    obtain ⟨ds, Pb⟩ := R
    dsimp only at hlt hdef
    repeat (first | refine GD ?_ | refine NW fun _ => ?_)
    refine WL.imp (M := [ownS al P.G.wait.length cl rcT 3 (P.G.wait.flatMap encCa), rpriA nd w { P with G := G2 }, rdsk w P.D, F]) (Imp.trans II (Imp.trans (hfold G2 [ownS al P.G.wait.length cl rcT 3 (P.G.wait.flatMap encCa), rdsk w P.D, F]) II)) ?_
    refine WL.step rfl (OP.call (pre := [ownS al P.G.wait.length cl rcT 3 (P.G.wait.flatMap encCa), rpriA nd w { P with G := G2 }, rdsk w P.D]) rfl rfl hlt PS rfl rfl ?_)
    rintro _ _ ⟨E, ⟨a', cap', rfl, rfl⟩, rfl⟩
    dsimp only [List.cons_append, List.nil_append]
    repeat (first | refine GD ?_ | refine NW fun _ => ?_)
    exact ret2 rfl rfl ⟨[ownS a' ds.length cap' rdT 3 (ds.flatMap encDn)] ++ [rpriA nd w Pb, rdsk w Pb.D], by unfold RThawPost; rw [hdef]; exact ⟨_, _, ⟨a', cap', rfl, rfl⟩, rfl, rfl⟩, II⟩
set_option maxHeartbeats 8000000 in
set_option maxRecDepth 10000 in
theorem rptick_ok (nd w : Nat) (P : Pri) (B : Int) (I : PInv P B) (hB : B + 12 ≤ widest) (now : Int) :
    Triple G 27 [.pointer (some ⟨nd, 0, none⟩), .int .i64 now] [rpriA nd w P, rdsk w P.D] (fun v M => ∃ E, RDonesA (tickP P now).1 v E ∧ M = E ++ [rpriA nd w (tickP P now).2, rdsk w (tickP P now).2.D]) := by
  refine Triple.enter Tryz.func27 rfl (by decide) rfl Tryz.ntmps27 rfl (fun F => ?_)
  refine WC.open (M := [rdsk w P.D, F]) (Ls := rpriL nd w P) II (fun x => ?_)
  obtain ⟨v, g, s⟩ := x
  have hgt := rgtick_ok g P.G I.left
  have hI2 : PInv { P with G := (tickG P.G).2 } B ∧ (∀ c ∈ (tickG P.G).1, RightC c) ∧ (tickG P.G).1.length ≤ 4 := by
    unfold tickG
    have hl := I.left
    split
    · exact ⟨I, (fun _ h => nomatch h), Nat.zero_le _⟩
    split
    · exact ⟨{ I with left := by show 0 ≤ P.G.left - 1 ∧ P.G.left - 1 ≤ 6; omega }, (fun _ h => nomatch h), Nat.zero_le _⟩
    · exact ⟨I.opened, I.wr, I.few⟩
  obtain ⟨I2, h2, h4⟩ := hI2
  have hlt := fun al cl => rplet_ok nd w { P with G := (tickG P.G).2 } B now al cl (tickG P.G).1 I2 (by omega) h2 h4
  rw [show letP { P with G := (tickG P.G).2 } now (tickG P.G).1 = tickP P now from rfl] at hlt
  unfold rpriL
  dsimp only [List.cons_append, List.nil_append]
  have hfold := fun (G' : Gt) (N : List Assn) => rpriFold nd w { P with G := G' } v g s (N := N)
  unfold rndC at *
  dsimp only at hfold
  generalize (tickG P.G).1 = l at *
  generalize (tickG P.G).2 = G2 at *
  generalize tickP P now = R at *
  obtain ⟨ds, Pb⟩ := R
  dsimp only at hlt ⊢
  repeat (first | refine GD ?_ | refine NW fun _ => ?_)
  refine WL.step rfl (OP.call (pre := [rgateA g P.G]) rfl rfl hgt PS rfl rfl ?_)
  rintro xv _ ⟨E, ⟨al, cl, rfl, rfl⟩, rfl⟩
  have hlt' := hlt al cl
  dsimp only [List.cons_append, List.nil_append]
  repeat (first | refine GD ?_ | refine NW fun _ => ?_)
  refine WL.imp (M := [ownS al l.length cl rcT 3 (l.flatMap encCa), rpriA nd w { P with G := G2 }, rdsk w P.D, F]) (Imp.trans II (Imp.trans (hfold G2 [ownS al l.length cl rcT 3 (l.flatMap encCa), rdsk w P.D, F]) II)) ?_
  refine WL.step rfl (OP.call (pre := [ownS al l.length cl rcT 3 (l.flatMap encCa), rpriA nd w { P with G := G2 }, rdsk w P.D]) rfl rfl hlt' PS rfl rfl ?_)
  rintro _ _ ⟨E, ⟨a', cap', rfl, rfl⟩, rfl⟩
  dsimp only [List.cons_append, List.nil_append]
  repeat (first | refine GD ?_ | refine NW fun _ => ?_)
  exact ret1 rfl ⟨[ownS a' ds.length cap' rdT 3 (ds.flatMap encDn)] ++ [rpriA nd w Pb, rdsk w Pb.D], ⟨_, ⟨a', cap', rfl, rfl⟩, rfl⟩, II⟩
end Go.Proofs.YtanjfjiaheghcaaGreatDoor
/- Contracts of functions of the given program, and plain laws on what they compute: parts of the proofs of laws. -/

namespace Go.Proofs.YtanjfjiaheghcaaGreatDoor
open Go Go.GL

/-! the document's primary: how it begins -/
set_option maxHeartbeats 16000000 in
set_option maxRecDepth 10000 in
theorem rpbegin_ok (nd w : Nat) (ring : Nat) (v0 g0 s0 : Value) (m0 f0 a0 : Int) (D : Dsk) (hD : D.ok) (hw : D.W.length < 10000) (hr : 1 ≤ ring ∧ ring ≤ 512) {V : Vol} {D' : Dsk} (ho : openV D ring = .ok (V, D')) {floor : Int} (hfl : 0 ≤ floor ∧ floor ≤ widest)
    (hf : D'.S.getD (ring + 10) [] = floorS floor) (hVr : V.J.ring = ring) (hW : D'.W = []) (hl : ring + 11 ≤ D'.S.length) (hn : 1 ≤ V.J.hd.first ∧ V.J.next ≤ widest) :
    Triple G 45 [.pointer (some ⟨nd, 0, none⟩)] [blk nd (rndC w v0 g0 s0 ring m0 f0 a0) rnT, rdsk w D] (fun v M => v = .int .i64 0 ∧ M = [rpriA nd w (beginP V D' floor), rdsk w D']) := by
  refine Triple.enter Tryz.func45 rfl (by decide) rfl Tryz.ntmps45 rfl (fun F => ?_)
  have hww := widest_eq
  have hJn : V.J.next = V.J.hd.first + V.J.held.length := rfl
  have hop := rvopen_ok w D ring hD hw (by omega)
  unfold ROpenVP at hop
  rw [ho] at hop
  have hcur : D'.cur (ring + 10) = floorS floor := by
    have : D'.cur (ring + 10) = D'.S.getD (ring + 10) [] := by unfold Dsk.cur; rw [hW]; rfl
    rw [this, hf]
  have hrd := rdread_ro w D' ((ring : Int) + 10) (by rw [hW]; decide)
  unfold RRdV at hrd
  rw [if_pos (by omega), show ((ring : Int) + 10).toNat = ring + 10 by omega, hcur] at hrd
  have hfold := fun (v g s : Nat) (N : List Assn) => rpriFold nd w (beginP V D' floor) v g s (N := N)
  unfold rndC at *
  dsimp only [beginP] at hfold
  rw [hVr] at hfold
  repeat (first | refine GD ?_ | refine NW fun _ => ?_)
  refine RD 8 14 (_) ?_
  refine WP 0 ?_
  refine WP 1 ?_
  refine WP 2 ?_
  refine VV 3 ?_
  refine WP 4 ?_
  refine WP 5 ?_
  refine WP 6 ?_
  refine VV 7 ?_
  refine WH.only 8 rfl rfl (by kernel_rfl) rfl (OP.call (pre := [rdsk w D]) rfl rfl hop PS rfl rfl (fun v M hM => ?_))
  obtain ⟨v, rfl, rfl⟩ := hM
  refine ⟨(fun h => nomatch h), ?_⟩
  refine WP 9 ?_
  refine WP 10 ?_
  refine WP 11 ?_
  refine WP 12 ?_
  refine WP 13 ?_
  refine DN ?_
  repeat (first | refine GD ?_ | refine NW fun _ => ?_)
  refine RD 15 15 (_) ?_
  refine WP 0 ?_
  refine WP 1 ?_
  refine WP 2 ?_
  refine VV 3 ?_
  refine WP 4 ?_
  refine WP 5 ?_
  refine WP 6 ?_
  refine VV 7 ?_
  refine WP 8 ?_
  refine WH.only 9 rfl rfl (by kernel_rfl) rfl (OP.callRO rfl rfl (hrd) (Ent.at (up_rdsk _ _) MM) rfl rfl ⟨fun _ => II, ?_⟩)
  refine WP 10 ?_
  refine WP 11 ?_
  refine WP 12 ?_
  refine WP 13 ?_
  refine WP 14 ?_
  refine DN ?_
  repeat (first | refine GD ?_ | refine NW fun _ => ?_)
  refine WL.step rfl (OP.makeS (z := [.int .u8 0]) rfl rfl rfl rfl rfl rfl rfl rfl (by decide) (by decide) (by decide) rfl rfl (fun bz => ?_))
  refine WL.step rfl (OP.toStr (sv := ba zero64) rfl rfl rfl rfl rfl rfl rfl rfl (by rw [ba_zero]; exact Ent.own (T := 5) MM) rfl rfl ?_)
  by_cases hfz : floor = 0
  · subst hfz
    rw [show floorS 0 = zero64 from rfl]
    repeat (first | refine GD ?_ | refine NW fun _ => ?_)
    rw [decide_eq_true (rfl : ba zero64 = ba zero64)]
    repeat (first | refine GD ?_ | refine NW fun _ => ?_)
    rename_i g s
    refine WL.open (Ls := rvolL v w V) (M := [blk g [.int .i64 0, .int .i64 0, .int .i64 0, .slice none 0 0] rgT, blk s [.int .i64 0, .int .i64 0, .int .i64 0] rsT, blk nd [.pointer (some ⟨w, 0, none⟩), .pointer (some ⟨v, 0, none⟩), .pointer (some ⟨g, 0, none⟩), .pointer (some ⟨s, 0, none⟩), .int .i64 ring, .int .i64 0, .int .i64 0, .int .i64 a0] rnT, rdsk w D', F]) II (fun y => ?_)
    have hback := Imp.fold (Ls := rvolL v w V) y (M := [blk g [.int .i64 0, .int .i64 0, .int .i64 0, .slice none 0 0] rgT, blk s [.int .i64 0, .int .i64 0, .int .i64 0] rsT, blk nd [.pointer (some ⟨w, 0, none⟩), .pointer (some ⟨v, 0, none⟩), .pointer (some ⟨g, 0, none⟩), .pointer (some ⟨s, 0, none⟩), .int .i64 ring, .int .i64 0, .int .i64 0, .int .i64 (V.J.hd.first - 1)] rnT, rdsk w D', F])
    unfold rvolL rjrnL at hback ⊢
    dsimp only [List.cons_append, List.nil_append] at hback ⊢
    repeat (first | refine GD ?_ | refine NW fun _ => ?_)
    refine ret1 rfl ⟨[rpriA nd w (beginP V D' 0), rdsk w D'], ⟨rfl, rfl⟩, ?_⟩
    refine Imp.trans II (Imp.trans hback (Imp.trans (Imp.nilS rcT 3) (Imp.trans II (Imp.trans (rgateFold g (openG 0) (none, 0) (N := [rvol v w V, blk s [.int .i64 0, .int .i64 0, .int .i64 0] rsT, blk nd [.pointer (some ⟨w, 0, none⟩), .pointer (some ⟨v, 0, none⟩), .pointer (some ⟨g, 0, none⟩), .pointer (some ⟨s, 0, none⟩), .int .i64 ring, .int .i64 0, .int .i64 0, .int .i64 (V.J.hd.first - 1)] rnT, rdsk w D', F])) (Imp.trans II (Imp.trans (hfold v g s [rdsk w D', F]) II))))))
  have hfS : floorS floor = sectorM (numB (clampN floor)) := by unfold floorS; rw [if_neg hfz]
  have hfm := floorM_floorS hfl
  have hne : floorS floor ≠ zero64 := fun h => by
    rw [h] at hfm
    have : floorM zero64 = some 0 := by unfold floorM; rw [if_pos rfl]
    rw [this] at hfm
    exact hfz (Option.some.inj hfm).symm
  have hbne : ¬ ba (floorS floor) = ba zero64 := fun h => hne (ba_inj h)
  obtain ⟨o1, o2⟩ := openOk_sector (flB_len floor)
  have hpad := floor_pad hfl
  have hpl : (padM (numB (clampN floor))).length < 1000000 := by
    rw [← o2, List.length_take]
    have := sectorM_len (flB_len floor)
    omega
  have hqo := qopen_ro (sectorM (numB (clampN floor))) (by rw [sectorM_len (flB_len floor)]; decide)
  unfold OpenQ at hqo
  rw [if_pos o1, o2] at hqo
  have hrf := rfloor_ro floor
  have hfp : 1 ≤ floor := by omega
  have hqn := fun r => qnum_ok r (padM (numB (clampN floor)), 0) hpl
  rw [hpad] at hqn
  dsimp only at hqn
  rw [hfS] at hbne ⊢
  generalize sectorM (numB (clampN floor)) = sf at *
  generalize padM (numB (clampN floor)) = pd at *
  generalize List.replicate (60 - (numB (clampN floor)).length) (0 : UInt8) = rest at *
  generalize hzz : ba zero64 = z64 at *
  repeat (first | refine GD ?_ | refine NW fun _ => ?_)
  refine WL.step rfl (OP.callRO rfl rfl hqo (fun _ _ => trivial) rfl rfl ?_)
  repeat (first | refine GD ?_ | refine NW fun _ => ?_)
  rename_i rb
  refine WL.imp (M := [qrd rb (pd, 0), rvol v w V, rdsk w D', blk nd [.pointer (some ⟨w, 0, none⟩), .pointer none, g0, s0, .int .i64 ring, .int .i64 m0, .int .i64 f0, .int .i64 a0] rnT, F]) II ?_
  refine WL.step rfl (OP.call (pre := [qrd rb (pd, 0)]) rfl rfl (hqn rb) PS rfl rfl ?_)
  rintro _ _ ⟨rfl, rfl⟩
  rw [show qrd rb (rest, 0) = blk rb [.string (ba rest), .int .i64 0] 166 from rfl]
  dsimp only [List.cons_append, List.nil_append]
  repeat (first | refine GD ?_ | refine NW fun _ => ?_)
  refine WL.guardT rfl rfl rfl rfl (OP.callRO rfl rfl hrf (fun _ _ => trivial) rfl rfl ?_)
  generalize ba sf = bs at *
  repeat (first | refine GD ?_ | refine NW fun _ => ?_)
  rw [decide_eq_true (rfl : bs = bs)]
  repeat (first | refine GD ?_ | refine NW fun _ => ?_)
  rename_i g s
  refine WL.open (Ls := rvolL v w V) (M := [blk g [.int .i64 0, .int .i64 0, .int .i64 floor, .slice none 0 0] rgT, blk s [.int .i64 0, .int .i64 0, .int .i64 0] rsT, blk nd [.pointer (some ⟨w, 0, none⟩), .pointer (some ⟨v, 0, none⟩), .pointer (some ⟨g, 0, none⟩), .pointer (some ⟨s, 0, none⟩), .int .i64 ring, .int .i64 0, .int .i64 floor, .int .i64 a0] rnT, rdsk w D', F]) II (fun y => ?_)
  have hback := Imp.fold (Ls := rvolL v w V) y (M := [blk g [.int .i64 0, .int .i64 0, .int .i64 floor, .slice none 0 0] rgT, blk s [.int .i64 0, .int .i64 0, .int .i64 0] rsT, blk nd [.pointer (some ⟨w, 0, none⟩), .pointer (some ⟨v, 0, none⟩), .pointer (some ⟨g, 0, none⟩), .pointer (some ⟨s, 0, none⟩), .int .i64 ring, .int .i64 0, .int .i64 floor, .int .i64 (V.J.hd.first - 1)] rnT, rdsk w D', F])
  unfold rvolL rjrnL at hback ⊢
  dsimp only [List.cons_append, List.nil_append] at hback ⊢
  repeat (first | refine GD ?_ | refine NW fun _ => ?_)
  refine ret1 rfl ⟨[rpriA nd w (beginP V D' floor), rdsk w D'], ⟨rfl, rfl⟩, ?_⟩
  refine Imp.trans II (Imp.trans hback (Imp.trans (Imp.nilS rcT 3) (Imp.trans II (Imp.trans (rgateFold g (openG floor) (none, 0) (N := [rvol v w V, blk s [.int .i64 0, .int .i64 0, .int .i64 0] rsT, blk nd [.pointer (some ⟨w, 0, none⟩), .pointer (some ⟨v, 0, none⟩), .pointer (some ⟨g, 0, none⟩), .pointer (some ⟨s, 0, none⟩), .int .i64 ring, .int .i64 0, .int .i64 floor, .int .i64 (V.J.hd.first - 1)] rnT, rdsk w D', F])) (Imp.trans II (Imp.trans (hfold v g s [rdsk w D', F]) II))))))
set_option maxHeartbeats 8000000 in
set_option maxRecDepth 10000 in
theorem rpopen_ok (w : Nat) (ring : Nat) (D : Dsk) (hD : D.ok) (hw : D.W.length < 10000) (hr : 1 ≤ ring ∧ ring ≤ 512) (hlD : ring + 11 ≤ D.S.length) {V : Vol} {D' : Dsk} (ho : openV D ring = .ok (V, D')) {floor B : Int} (I : PInv (beginP V D' floor) B) (hB : B + 2 ≤ widest) (hVr : V.J.ring = ring) :
    Triple G 10 [.pointer (some ⟨w, 0, none⟩), .int .i64 ring] [rdsk w D] (fun v M => ∃ nd, v = .tuple #[.pointer (some ⟨nd, 0, none⟩), .int .i64 0] ∧ M = [rpriA nd w (beginP V D' floor), rdsk w D']) := by
  refine Triple.enter Tryz.func10 rfl (by decide) rfl Tryz.ntmps10 rfl (fun F => ?_)
  have hbd := I.V.j.bound
  have hh := I.V.j.hdr
  have hww := widest_eq
  have hbg := fun nd v0 g0 s0 m0 f0 a0 => rpbegin_ok nd w ring v0 g0 s0 m0 f0 a0 D hD hw hr ho I.fr (by rw [← hVr]; exact I.fl) hVr I.W (by rw [← hVr]; exact I.len) ⟨hh.2.1, by unfold Jrn.next; have : (beginP V D' floor).V = V := rfl; rw [this] at hbd hh; omega⟩
  unfold rndC at hbg
  have hnlt : ¬ (D.S.length : Int) < (ring : Int) + 11 := by omega
  refine WC.open (Ls := rdskL w D) (M := [F]) II (fun y => ?_)
  have hback := fun (M : List Assn) => Imp.fold (Ls := rdskL w D) y (M := M)
  unfold rdskL at hback ⊢
  dsimp only [List.cons_append, List.nil_append] at hback ⊢
  repeat (first | refine GD ?_ | refine NW fun _ => ?_)
  rename_i nd
  refine WL.imp (M := [rdsk w D, blk nd [.pointer (some ⟨w, 0, none⟩), .pointer none, .pointer none, .pointer none, .int .i64 ring, .int .i64 0, .int .i64 0, .int .i64 0] rnT, F]) (Imp.trans II (hback [blk nd [.pointer (some ⟨w, 0, none⟩), .pointer none, .pointer none, .pointer none, .int .i64 ring, .int .i64 0, .int .i64 0, .int .i64 0] rnT, F])) ?_
  refine WL.step rfl (OP.call (pre := [blk nd _ rnT, rdsk w D]) rfl rfl (hbg nd (.pointer none) (.pointer none) (.pointer none) 0 0 0) PS rfl rfl ?_)
  rintro _ _ ⟨rfl, rfl⟩
  repeat (first | refine GD ?_ | refine NW fun _ => ?_)
  exact ret2 rfl rfl ⟨[rpriA nd w (beginP V D' floor), rdsk w D'], ⟨nd, rfl, rfl⟩, II⟩
set_option maxHeartbeats 8000000 in
set_option maxRecDepth 10000 in
theorem rpcrash_ok (nd w : Nat) (P : Pri) (B : Int) (I : PInv P B) (hB : B + 4 ≤ widest) (keep : Int) (hk : 0 ≤ keep ∧ keep < 18446744073709551616) :
    Triple G 34 [.pointer (some ⟨nd, 0, none⟩), .int .u64 keep] [rpriA nd w P, rdsk w P.D] (fun v M => v = .int .i64 0 ∧ M = [rpriA nd w (crashP P keep), rdsk w (crashP P keep).D]) := by
  refine Triple.enter Tryz.func34 rfl (by decide) rfl Tryz.ntmps34 rfl (fun F => ?_)
  refine WC.open (M := [rdsk w P.D, F]) (Ls := rpriL nd w P) II (fun x => ?_)
  obtain ⟨v, g, s⟩ := x
  obtain ⟨V', D', ho, hcr, I', _, _, e3, e4, e5, e6, e7⟩ := I.crash hB keep
  have hr := I.V.j.ring
  have hbd := I'.V.j.bound
  have hww := widest_eq
  have hh := I'.V.j.hdr
  have hdc := rdcrash_ok w P.D keep hk I.V.j.dok (by rw [I.W]; decide)
  have hbg := rpbegin_ok nd w P.V.J.ring (.pointer (some ⟨v, 0, none⟩)) (.pointer (some ⟨g, 0, none⟩)) (.pointer (some ⟨s, 0, none⟩)) P.marked P.floor P.acked (P.D.crash keep) (Dsk.settle_ok I.V.j.dok _) (by show (0 : Nat) < 10000; decide) ⟨hr.1, hr.2.1⟩ ho I.fr e7 e3 I'.W (by rw [e6]; exact I.len) ⟨hh.2.1, by unfold Jrn.next; have : (beginP V' D' P.floor).V = V' := rfl; rw [this] at hbd hh; omega⟩
  rw [hcr]
  unfold rpriL
  dsimp only [List.cons_append, List.nil_append]
  unfold rndC at *
  repeat (first | refine GD ?_ | refine NW fun _ => ?_)
  refine WL.step rfl (OP.call (pre := [rdsk w P.D]) rfl rfl hdc PS rfl rfl ?_)
  rintro _ _ ⟨rfl, rfl⟩
  repeat (first | refine GD ?_ | refine NW fun _ => ?_)
  refine WL.step rfl (OP.call (pre := [blk nd _ rnT, rdsk w (P.D.crash keep)]) rfl rfl hbg PS rfl rfl ?_)
  rintro _ _ ⟨rfl, rfl⟩
  repeat (first | refine GD ?_ | refine NW fun _ => ?_)
  exact ret1 rfl ⟨[rpriA nd w (beginP V' D' P.floor), rdsk w D'], ⟨rfl, rfl⟩, II⟩
end Go.Proofs.YtanjfjiaheghcaaGreatDoor
/- Contracts of functions of the given program, and plain laws on what they compute: parts of the proofs of laws. -/

namespace Go.Proofs.YtanjfjiaheghcaaGreatDoor
open Go Go.GL

theorem encR_len (r : Rec) : (encR r).length = 5 := rfl
set_option maxHeartbeats 2000000 in
set_option maxRecDepth 10000 in
theorem jsame_ro (a1 a2 : Option Addr) (n1 c1 n2 c2 : Nat) (l1 l2 : List Rec) (h1 : n1 = l1.length) (h2 : n2 = l2.length) (hs : n1 < 1000000) : RO G 28 [.slice a1 n1 c1, .slice a2 n2 c2] (fun h => readS a1 n1 5 (l1.flatMap encR) h ∧ readS a2 n2 5 (l2.flatMap encR) h) (.bool (decide (l1 = l2))) := by
  refine RO.enter Tryz.func28 rfl (by decide) rfl Tryz.ntmps28 rfl (fun A hu hA => ?_) (up_and (up_readS _ _ _ _) (up_readS _ _ _ _))
  have hE1 : ∀ {L}, A ∈ L → Ent L (readS a1 n1 5 (l1.flatMap encR)) := fun m => Ent.mem m hu fun k x => (hA k x).1
  have hE2 : ∀ {L}, A ∈ L → Ent L (readS a2 n2 5 (l2.flatMap encR)) := fun m => Ent.mem m hu fun k x => (hA k x).2
  by_cases hne : n1 = n2
  rotate_left
  · have : l1 ≠ l2 := fun e => hne (by rw [h1, h2, e])
    repeat (first | refine GD ?_ | refine NW fun _ => ?_)
    exact ret1 rfl ⟨by simp [this], MM⟩
  subst hne
  repeat (first | refine GD ?_ | refine NW fun _ => ?_)
  refine WC.loop (σ := Nat) (fun k => k ≤ n1 ∧ ∀ j, j < k → l1[j]? = l2[j]?)
    (fun k => [(0, .val (.slice a1 n1 c1)), (1, .val (.slice a2 n1 c2)), (12, .val (.int .i64 n1)), (13, .val (.int .i64 k))])
    (fun k => [A]) (fun k => n1 - k) 0 ⟨Nat.zero_le _, fun j hj => by omega⟩ ⟨rfl, rfl, rfl, rfl, trivial⟩ (Imp.refl _) ?_
  rintro k ⟨hk, hall⟩
  by_cases hlt : k < n1
  rotate_left
  · repeat (first | refine GD ?_ | refine NW fun _ => ?_)
    refine ret1 rfl ⟨?_, MM⟩
    have : l1 = l2 := List.ext_getElem? fun i => by
      by_cases hi : i < k
      · exact hall i hi
      · rw [List.getElem?_eq_none (by omega), List.getElem?_eq_none (by omega)]
    simp [this]
  have hl1 : k < l1.length := by omega
  have hl2 : k < l2.length := by omega
  repeat (first | refine GD ?_ | refine NW fun _ => ?_)
  refine WC.fact (Ent.some (hE1 MM) (by omega)) ?_
  rintro ⟨b, off, rfl⟩
  refine WC.fact (Ent.some (hE2 MM) (by omega)) ?_
  rintro ⟨b', off', rfl⟩
  refine RD 9 9 (_) ?_
  refine WP 0 ?_
  refine WP 1 ?_
  refine WP 2 ?_
  refine VL 3 (.agg (encR l1[k]).toArray) rfl rfl rfl rfl (.inr ⟨rfl, encR l1[k], rfl, rfl, Ent.elA encR_len (hE1 MM) hl1⟩) ?_
  refine WP 4 ?_
  refine WP 5 ?_
  refine WP 6 ?_
  refine VL 7 (.agg (encR l2[k]).toArray) rfl rfl rfl rfl (.inr ⟨rfl, encR l2[k], rfl, rfl, Ent.elA encR_len (hE2 MM) hl2⟩) ?_
  refine VQ 8 rfl (Quiet.eqAgg (EqAgg.neq (xs := encR l1[k]) (ys := encR l2[k]) rfl rfl rfl rfl (by kernel_rfl) (by kernel_rfl) (by kernel_rfl) (eq_rec _ _))) ?_
  refine DN ?_
  by_cases he : l1[k] = l2[k]
  · rw [decide_eq_true he]
    repeat (first | refine GD ?_ | refine NW fun _ => ?_)
    exact ⟨k + 1, ⟨by omega, fun j hj => by
      by_cases e : j = k
      · subst e; rw [List.getElem?_eq_getElem hl1, List.getElem?_eq_getElem hl2, he]
      · exact hall j (by omega)⟩, by omega, ⟨rfl, rfl, rfl, rfl, trivial⟩, Imp.refl _⟩
  · rw [decide_eq_false he]
    repeat (first | refine GD ?_ | refine NW fun _ => ?_)
    refine ret1 rfl ⟨?_, MM⟩
    have : l1 ≠ l2 := fun e => he (by subst e; rfl)
    simp [this]
end Go.Proofs.YtanjfjiaheghcaaGreatDoor
/- Contracts of functions of the given program, and plain laws on what they compute: parts of the proofs of laws. -/

namespace Go.Proofs.YtanjfjiaheghcaaGreatDoor
open Go Go.GL

/-! the document's primary: Ship; what is done, and compared -/
theorem dloose_ro (p : Nat) (D : Dsk) : RO G 38 [.pointer (some ⟨p, 0, none⟩)] (dsk p D) (.int .i64 D.W.length) := by
  refine RO.enterEx Tryz.func38 rfl (by decide) rfl Tryz.ntmps38 rfl (fun y A hu hA => ?_)
  have hE : ∀ {L}, A ∈ L → Ent L (cellsAt p 0 [.slice y.1 D.S.length y.2.1, .slice y.2.2.1 D.W.length y.2.2.2]) := fun m => Ent.of hu hA m (Ent.whole (List.Mem.head _))
  repeat (first | refine GD ?_ | refine NW fun _ => ?_)
  refine WL.step rfl (OP.load1 (v := .slice y.2.2.1 D.W.length y.2.2.2) rfl rfl rfl rfl (Ent.one (i := 1) (hE MM) rfl) rfl rfl ?_)
  repeat (first | refine GD ?_ | refine NW fun _ => ?_)
  exact ret1 rfl ⟨rfl, MM⟩
theorem rvolFoldX (v p : Nat) (V : Vol) (y : Nat × Option Addr × Nat × Option Addr × Nat) {N : List Assn} : Imp
    (blk v (rvolC p y.1 V.J.ring V.laid) 84 :: blk y.1 [.pointer (some ⟨p, 0, none⟩), .int .i64 V.J.ring, .int .i64 V.J.hd.turn, .int .i64 V.J.hd.first, .int .i64 V.J.hd.gen, .int .i64 V.J.hd.low, .slice y.2.1 V.J.held.length y.2.2.1, .slice y.2.2.2.1 V.J.held.length y.2.2.2.2] 143 ::
      ownS y.2.1 V.J.held.length y.2.2.1 140 5 (V.J.held.flatMap (fun x => encR x.2)) :: ownS y.2.2.2.1 V.J.held.length y.2.2.2.2 3 1 (V.J.held.map genC) :: N) (rvol v p V :: N) := Imp.fold (Ls := rvolL v p V) y
set_option maxHeartbeats 4000000 in
set_option maxRecDepth 10000 in
theorem dlist_rt (a : Option Addr) (n c : Nat) (l : List Dn) (hn : n = l.length) (hs : n < 1000000) : RT G 25 [.slice a n c] (readS a n 3 (l.flatMap encDn)) (RDonesA l) := by
  refine RT.enter Tryz.func25 rfl (by decide) rfl Tryz.ntmps25 rfl (fun A hu hA => ?_)
  have hE : ∀ {L}, A ∈ L → Ent L (readS a n 3 (l.flatMap encDn)) := fun m => Ent.mem m hu hA
  repeat (first | refine GD ?_ | refine NW fun _ => ?_)
  refine WC.imp (Imp.nilS rdT 3) ?_
  refine WC.loop (σ := Nat × Option Addr × Nat) (fun s => s.1 ≤ l.length)
    (fun s => [(0, .val (.slice a n c)), (3, .val (.slice s.2.1 s.1 s.2.2)), (6, .val (.int .i64 n)), (7, .val (.int .i64 s.1))])
    (fun s => [ownS s.2.1 s.1 s.2.2 rdT 3 ((l.take s.1).flatMap encDn), A]) (fun s => l.length - s.1) (0, none, 0) (Nat.zero_le _) ⟨rfl, rfl, rfl, rfl, trivial⟩ (Imp.refl _) ?_
  rintro ⟨k, a7, cap⟩ hk
  dsimp only at hk ⊢
  by_cases hlt : k < l.length
  rotate_left
  · have he : k = l.length := by omega
    subst he
    rw [List.take_length]
    repeat (first | refine GD ?_ | refine NW fun _ => ?_)
    exact ret1 rfl ⟨_, ⟨a7, cap, rfl, rfl⟩, Imp.refl _⟩
  refine WC.fact (Ent.some (hE MM) (by omega)) ?_
  rintro ⟨b, off, rfl⟩
  have hsn : (l.take (k + 1)).flatMap encDn = (l.take k).flatMap encDn ++ encDn l[k] := by
    rw [← List.take_append_getElem hlt, List.flatMap_append]; simp
  have hel : ∀ {L : List Assn} {i : Nat} {v : Value}, A ∈ L → Nat.blt i 3 = true → (encDn l[k])[i]? = some v → Ent L (cellAt b (off + k * 3 + i) v) := fun m hi hv => Ent.elF encDn_len (hE m) hlt hi hv
  generalize l[k] = d at *
  obtain ⟨id, sq, cd⟩ := d
  repeat (first | refine GD ?_ | refine NW fun _ => ?_)
  refine RD 18 20 (_) ?_
  refine WP 0 ?_
  refine WP 1 ?_
  refine WP 2 ?_
  refine WP 3 ?_
  refine WP 4 ?_
  refine VL 5 (.int .i64 id) rfl rfl rfl rfl (.inl ⟨rfl, hel (i := 0) MM rfl rfl⟩) ?_
  refine WP 6 ?_
  refine WP 7 ?_
  refine WP 8 ?_
  refine WP 9 ?_
  refine VL 10 (.int .i64 sq) rfl rfl rfl rfl (.inl ⟨rfl, hel (i := 1) MM rfl rfl⟩) ?_
  refine WP 11 ?_
  refine WP 12 ?_
  refine WP 13 ?_
  refine WP 14 ?_
  refine VL 15 (.int .i64 cd) rfl rfl rfl rfl (.inl ⟨rfl, hel (i := 2) MM rfl rfl⟩) ?_
  refine VQ 16 rfl (Quiet.build rfl rfl) ?_
  refine WH.only 17 rfl rfl (by kernel_rfl) rfl (OP.sliceLit (c := encDn (id, sq, cd)) rfl rfl rfl rfl rfl rfl rfl rfl (fun b2 => ⟨fun _ => II, ?_⟩))
  refine WH.only 18 rfl rfl (by kernel_rfl) rfl (OP.append rfl rfl rfl rfl rfl rfl rfl rfl rfl (show Imp _ (ownS a7 k cap rdT 3 ((l.take k).flatMap encDn) :: _) from P1) (Ent.own (T := rdT) MM) rfl (by omega) (by omega) rfl rfl (fun a' cap' => ⟨(fun h => nomatch h), ?_⟩))
  refine WP 19 ?_
  refine DN ?_
  repeat (first | refine GD ?_ | refine NW fun _ => ?_)
  exact ⟨(k + 1, a', cap'), by dsimp only; omega, by dsimp only; omega, ⟨rfl, rfl, rfl, rfl, trivial⟩, by dsimp only; rw [hsn]; exact II⟩
set_option maxHeartbeats 4000000 in
set_option maxRecDepth 10000 in
theorem dsame_ro (a1 a2 : Option Addr) (n1 c1 n2 c2 : Nat) (l : List Dn) (h1 : n1 = l.length) (h2 : n2 = l.length) (hs : n1 < 1000000) : RO G 24 [.slice a1 n1 c1, .slice a2 n2 c2] (fun h => readS a1 n1 3 (l.flatMap encDn) h ∧ readS a2 n2 3 (l.flatMap encDn) h) (.bool true) := by
  refine RO.enter Tryz.func24 rfl (by decide) rfl Tryz.ntmps24 rfl (fun A hu hA => ?_) (up_and (up_readS _ _ _ _) (up_readS _ _ _ _))
  have hE1 : ∀ {L}, A ∈ L → Ent L (readS a1 n1 3 (l.flatMap encDn)) := fun m => Ent.mem m hu fun k x => (hA k x).1
  have hE2 : ∀ {L}, A ∈ L → Ent L (readS a2 n2 3 (l.flatMap encDn)) := fun m => Ent.mem m hu fun k x => (hA k x).2
  have hne : n1 = n2 := by omega
  subst hne
  repeat (first | refine GD ?_ | refine NW fun _ => ?_)
  refine WC.loop (σ := Nat) (fun k => k ≤ n1)
    (fun k => [(0, .val (.slice a1 n1 c1)), (1, .val (.slice a2 n1 c2)), (12, .val (.int .i64 n1)), (13, .val (.int .i64 k))])
    (fun k => [A]) (fun k => n1 - k) 0 (Nat.zero_le _) ⟨rfl, rfl, rfl, rfl, trivial⟩ (Imp.refl _) ?_
  intro k hk
  by_cases hlt : k < n1
  rotate_left
  · repeat (first | refine GD ?_ | refine NW fun _ => ?_)
    exact ret1 rfl ⟨rfl, MM⟩
  have hl1 : k < l.length := by omega
  repeat (first | refine GD ?_ | refine NW fun _ => ?_)
  refine WC.fact (Ent.some (hE1 MM) (by omega)) ?_
  rintro ⟨b, off, rfl⟩
  refine WC.fact (Ent.some (hE2 MM) (by omega)) ?_
  rintro ⟨b', off', rfl⟩
  have hel1 : ∀ {L}, A ∈ L → Ent L (cellsAt b (off + k * 3) (encDn l[k])) := fun m => Ent.elA encDn_len (hE1 m) hl1
  have hel2 : ∀ {L}, A ∈ L → Ent L (cellsAt b' (off' + k * 3) (encDn l[k])) := fun m => Ent.elA encDn_len (hE2 m) hl1
  generalize l[k] = cm at *
  refine RD 9 9 (_) ?_
  refine WP 0 ?_
  refine WP 1 ?_
  refine WP 2 ?_
  refine VL 3 (.agg (encDn cm).toArray) rfl rfl rfl rfl (.inr ⟨rfl, encDn cm, rfl, rfl, hel1 MM⟩) ?_
  refine WP 4 ?_
  refine WP 5 ?_
  refine WP 6 ?_
  refine VL 7 (.agg (encDn cm).toArray) rfl rfl rfl rfl (.inr ⟨rfl, encDn cm, rfl, rfl, hel2 MM⟩) ?_
  refine VQ 8 rfl (Quiet.eqAgg (EqAgg.neqSelf (xs := encDn cm) rfl rfl rfl rfl (by kernel_rfl) (by kernel_rfl) (by kernel_rfl) rfl)) ?_
  refine DN ?_
  repeat (first | refine GD ?_ | refine NW fun _ => ?_)
  exact ⟨k + 1, by omega, by omega, ⟨rfl, rfl, rfl, rfl, trivial⟩, Imp.refl _⟩
def RShipA (l : List Rec) (v : Value) (E : List Assn) : Prop := ∃ a cap, v = .slice a l.length cap ∧ E = [ownS a l.length cap 140 5 (l.flatMap encR)]
set_option maxHeartbeats 8000000 in
set_option maxRecDepth 10000 in
theorem rpship_ok (nd w : Nat) (P : Pri) (B : Int) (I : PInv P B) : Triple G 30 [.pointer (some ⟨nd, 0, none⟩)] [rpriA nd w P] (fun v M => ∃ E, RShipA (shipP P) v E ∧ M = E ++ [rpriA nd w P]) := by
  refine Triple.enter Tryz.func30 rfl (by decide) rfl Tryz.ntmps30 rfl (fun F => ?_)
  refine WC.open (M := [F]) (Ls := rpriL nd w P) II (fun x => ?_)
  obtain ⟨v, g, s⟩ := x
  unfold rpriL
  dsimp only [List.cons_append, List.nil_append]
  refine WC.open (Ls := rvolL v w P.V) (M := [blk nd (rndC w (.pointer (some ⟨v, 0, none⟩)) (.pointer (some ⟨g, 0, none⟩)) (.pointer (some ⟨s, 0, none⟩)) P.V.J.ring P.marked P.floor P.acked) rnT, rgateA g P.G, rsiteA s P.S, F]) II (fun y => ?_)
  have hback := fun (N : List Assn) => rvolFoldX v w P.V y (N := N)
  have hfold := fun (N : List Assn) => rpriFold nd w P v g s (N := N)
  obtain ⟨j, ah, ch, ag, cg⟩ := y
  unfold rvolL rjrnL
  unfold rndC at *
  dsimp only [List.cons_append, List.nil_append] at hback ⊢
  have hsh : shipP P = (P.V.J.held.map Prod.snd).take 4 := rfl
  have hack := I.ack
  have hseq := fun k h => ship_seq I.V.j.seq hack (k := k) h
  have hlen := I.V.j.len
  have hrg := I.V.j.ring
  unfold rvolC at *
  dsimp only [List.cons_append, List.nil_append] at hback ⊢
  generalize P.V.laid.map numC ++ P.V.laid.map datC = tl at *
  generalize hK : P.V.J.held = held at *
  repeat (first | refine GD ?_ | refine NW fun _ => ?_)
  refine WC.imp (Imp.nilS 140 5) ?_
  refine WC.loop (σ := Nat × Option Addr × Nat) (fun z => z.1 ≤ held.length)
    (fun z => [(0, .val (.pointer (some ⟨nd, 0, none⟩))), (3, .val (.slice z.2.1 (min z.1 4) z.2.2)), (15, .val (.int .i64 held.length)), (16, .val (.int .i64 z.1))])
    (fun z => [ownS z.2.1 (min z.1 4) z.2.2 140 5 ((((held.map Prod.snd).take z.1).take 4).flatMap encR), blk v (.pointer (some ⟨w, 0, none⟩) :: .pointer (some ⟨j, 0, none⟩) :: .int .i64 P.V.J.ring :: tl) 84, blk j [.pointer (some ⟨w, 0, none⟩), .int .i64 P.V.J.ring, .int .i64 P.V.J.hd.turn, .int .i64 P.V.J.hd.first, .int .i64 P.V.J.hd.gen, .int .i64 P.V.J.hd.low, .slice ah held.length ch, .slice ag held.length cg] 143, ownS ah held.length ch 140 5 (held.flatMap (fun x => encR x.2)), ownS ag held.length cg 3 1 (held.map genC), blk nd [.pointer (some ⟨w, 0, none⟩), .pointer (some ⟨v, 0, none⟩), .pointer (some ⟨g, 0, none⟩), .pointer (some ⟨s, 0, none⟩), .int .i64 P.V.J.ring, .int .i64 P.marked, .int .i64 P.floor, .int .i64 P.acked] rnT, rgateA g P.G, rsiteA s P.S, F]) (fun z => held.length - z.1)
    (0, none, 0) (Nat.zero_le _) ⟨rfl, rfl, rfl, rfl, trivial⟩ II ?_
  rintro ⟨k, ar, cr⟩ hk
  dsimp only at hk ⊢
  by_cases hlt : k < held.length
  rotate_left
  · have he : k = held.length := by omega
    subst he
    rw [List.take_of_length_le (show (held.map Prod.snd).length ≤ held.length by rw [List.length_map]; exact Nat.le_refl _), ← hsh]
    have hl : (shipP P).length = min held.length 4 := by rw [hsh, List.length_take, List.length_map, Nat.min_comm]
    repeat (first | refine GD ?_ | refine NW fun _ => ?_)
    refine ret1 rfl ⟨[ownS ar (shipP P).length cr 140 5 ((shipP P).flatMap encR), rpriA nd w P], ⟨_, ⟨ar, cr, by rw [hl], rfl⟩, rfl⟩, ?_⟩
    rw [hl]
    exact Imp.trans II (Imp.trans (hback [ownS ar (min held.length 4) cr 140 5 ((shipP P).flatMap encR), blk nd [.pointer (some ⟨w, 0, none⟩), .pointer (some ⟨v, 0, none⟩), .pointer (some ⟨g, 0, none⟩), .pointer (some ⟨s, 0, none⟩), .int .i64 P.V.J.ring, .int .i64 P.marked, .int .i64 P.floor, .int .i64 P.acked] rnT, rgateA g P.G, rsiteA s P.S, F]) (Imp.trans II (Imp.trans (hfold [ownS ar (min held.length 4) cr 140 5 ((shipP P).flatMap encR), F]) II)))
  have hsq := hseq k hlt
  refine WC.fact (Ent.some (Ent.own (a := ah) (n := held.length) (cap := ch) (T := 140) (size := 5) (cs := held.flatMap (fun x => encR x.2)) MM) (by omega)) ?_
  rintro ⟨b, off, rfl⟩
  have hkl : k < (held.map Prod.snd).length := by rw [List.length_map]; exact hlt
  have hsn : (held.map Prod.snd).take (k + 1) = (held.map Prod.snd).take k ++ [held[k].2] := by
    rw [← List.take_append_getElem hkl, List.getElem_map]
  have htl : ((held.map Prod.snd).take k).length = k := by rw [List.length_take]; omega
  have helA : ∀ {L : List Assn}, ownS (some ⟨b, off, none⟩) held.length ch 140 5 (held.flatMap (fun x => encR x.2)) ∈ L → Ent L (cellsAt b (off + k * 5) (encR held[k].2)) := fun m => Ent.elA (f := fun x : Held => encR x.2) (fun _ => rfl) (Ent.own (T := 140) m) hlt
  have helI : ∀ {L : List Assn}, ownS (some ⟨b, off, none⟩) held.length ch 140 5 (held.flatMap (fun x => encR x.2)) ∈ L → Ent L (cellAt b (off + k * 5 + 0) (.int .i64 (held[k]).2.1)) := fun m => Ent.elF (f := fun x : Held => encR x.2) (fun _ => rfl) (Ent.own (T := 140) m) hlt rfl rfl
  generalize ht1 : (held.map Prod.snd).take (k + 1) = tk1 at *
  generalize (held.map Prod.snd).take k = tk at *
  generalize held[k].2 = r at *
  obtain ⟨seq, kind, block, data, num⟩ := r
  dsimp only at hsq helI
  rw [show encR (seq, kind, block, data, num) = [.int .i64 seq, .int .i64 kind, .int .i64 block, .string data, .int .i64 num] from rfl] at *
  by_cases h4 : k < 4
  · have hmin : min k 4 = k := by omega
    have hmin1 : min (k + 1) 4 = k + 1 := by omega
    rw [hmin]
    rw [List.take_of_length_le (show tk.length ≤ 4 by omega)]
    repeat (first | refine GD ?_ | refine NW fun _ => ?_)
    refine RD 24 24 (_) ?_
    refine WP 0 ?_
    refine WP 1 ?_
    refine WP 2 ?_
    refine VV 3 ?_
    refine WP 4 ?_
    refine WP 5 ?_
    refine VV 6 ?_
    refine WP 7 ?_
    refine WP 8 ?_
    refine VV 9 ?_
    refine WP 10 ?_
    refine WP 11 ?_
    refine WP 12 ?_
    refine VL 13 (.int .i64 seq) rfl rfl rfl rfl (.inl ⟨rfl, helI MM⟩) ?_
    refine WP 14 ?_
    refine WP 15 ?_
    refine WP 16 ?_
    refine VV 17 ?_
    refine VQ 18 rfl (Quiet.bool (Quiet.pure (c := none) (nw := false) rfl trivial) (decide_eq_true hsq)) ?_
    refine WP 19 ?_
    refine WP 20 ?_
    refine WP 21 ?_
    refine WP 22 ?_
    refine WP 23 ?_
    refine DN ?_
    rw [decide_eq_true (show (k : Int) < 4 by omega)]
    repeat (first | refine GD ?_ | refine NW fun _ => ?_)
    refine WL.step rfl (OP.loadA (l := [.int .i64 seq, .int .i64 kind, .int .i64 block, .string data, .int .i64 num]) rfl rfl rfl rfl (helA MM) rfl rfl rfl ?_)
    repeat (first | refine GD ?_ | refine NW fun _ => ?_)
    refine WL.step rfl (OP.append (ds := [.int .i64 seq, .int .i64 kind, .int .i64 block, .string data, .int .i64 num]) rfl rfl rfl rfl rfl rfl rfl rfl rfl (show Imp _ (ownS ar k cr 140 5 (tk.flatMap encR) :: _) from P1) (Ent.own (T := 140) MM) rfl (by omega) (by omega) rfl rfl (fun a' cap' => ?_))
    repeat (first | refine GD ?_ | refine NW fun _ => ?_)
    refine ⟨(k + 1, a', cap'), hlt, by dsimp only; omega, ⟨rfl, (by dsimp only; rw [hmin1]; rfl), rfl, rfl, trivial⟩, ?_⟩
    dsimp only
    rw [ht1, hsn, List.take_of_length_le (show (tk ++ [(seq, kind, block, data, num)]).length ≤ 4 by rw [List.length_append, List.length_singleton]; omega), hmin1]
    rw [List.flatMap_append, List.flatMap_cons, List.flatMap_nil, List.append_nil]
    exact II
  · have hmin : min k 4 = 4 := by omega
    have hmin1 : min (k + 1) 4 = 4 := by omega
    rw [hmin]
    repeat (first | refine GD ?_ | refine NW fun _ => ?_)
    refine RD 24 24 (_) ?_
    refine WP 0 ?_
    refine WP 1 ?_
    refine WP 2 ?_
    refine VV 3 ?_
    refine WP 4 ?_
    refine WP 5 ?_
    refine VV 6 ?_
    refine WP 7 ?_
    refine WP 8 ?_
    refine VV 9 ?_
    refine WP 10 ?_
    refine WP 11 ?_
    refine WP 12 ?_
    refine VL 13 (.int .i64 seq) rfl rfl rfl rfl (.inl ⟨rfl, helI MM⟩) ?_
    refine WP 14 ?_
    refine WP 15 ?_
    refine WP 16 ?_
    refine VV 17 ?_
    refine VQ 18 rfl (Quiet.bool (Quiet.pure (c := none) (nw := false) rfl trivial) (decide_eq_true hsq)) ?_
    refine WP 19 ?_
    refine WP 20 ?_
    refine WP 21 ?_
    refine WP 22 ?_
    refine WP 23 ?_
    refine DN ?_
    repeat (first | refine GD ?_ | refine NW fun _ => ?_)
    refine ⟨(k + 1, ar, cr), hlt, by dsimp only; omega, ⟨rfl, (by dsimp only; rw [hmin1]; rfl), rfl, rfl, trivial⟩, ?_⟩
    dsimp only
    rw [ht1, hsn, hmin1, List.take_append_of_le_length (by omega)]
    exact II
end Go.Proofs.YtanjfjiaheghcaaGreatDoor
/- Contracts of functions of the given program, and plain laws on what they compute: parts of the proofs of laws. -/

namespace Go.Proofs.YtanjfjiaheghcaaGreatDoor
open Go Go.GL

/-! PrimaryPlays: the program's errors against the document's -/
theorem RO.weaken {f : FuncId} {args : List Value} {R R' : Assn} {v : Value} (h : RO G f args R v) (g : ∀ k, R' k → R k) : RO G f args R' v := ⟨h.enters, fun w x => h.calls w (g _ x)⟩
theorem Imp.tt (L : List Assn) : Imp L ((fun _ => True) :: L) := fun h s => ⟨Hp.empty, h, fun _ => .inl rfl, by funext b; simp [Hp.join, Hp.empty], trivial, s⟩
/-- an error of the program's and a number of the document's are the same, at a place -/
structure PErr (a code : Int) (v : Value) (X : Assn) : Prop where
  up : Up X
  ro : RO G 11 [v, .int .i64 a, .int .i64 code] (fun h => ErrT h ∧ X h) (.bool true)
theorem PErr.of {er : Option Er1} {a : Int} {v : Value} {E : List Assn} (h : IsEr er v E) (hg : GoodEr er a) : ∃ X, PErr a (erC er) v X ∧ ∀ L, Imp (E ++ L) (X :: L) := by
  cases er with
  | none =>
    obtain ⟨rfl, rfl⟩ := h
    exact ⟨fun _ => True, ⟨fun _ _ _ _ => trivial, RO.weaken (pplace_nil a) fun _ _ => trivial⟩, fun L => Imp.tt L⟩
  | some lc =>
    obtain ⟨l, c⟩ := lc
    obtain ⟨⟨s, rfl, hs⟩, hc⟩ := hg l c rfl
    obtain ⟨ch, h1, rfl, rfl⟩ := h
    have hl : ch.length < 1000 := by
      have := congrArg List.length h1
      rw [List.length_map, List.length_cons] at this
      omega
    exact ⟨chainR ch c, ⟨up_chainR ch c, pplace_err ch c a s h1 hl hc⟩, fun L => Imp.refl _⟩
theorem PErr.ent {a code : Int} {v : Value} {X A : Assn} {L : List Assn} (h : PErr a code v X) (hu : Up A) (hA : ∀ k, A k → ErrT k) (m1 : X ∈ L) (m2 : A ∈ L) : Ent L (fun k => ErrT k ∧ X k) := Ent.and (Ent.mem m2 hu hA) (Ent.mem m1 h.up fun _ x => x)
def PErPost (p q : Nat) (R : Option Er1 × Pri) (a : Int) (x : Value) (M : List Assn) : Prop := ∃ X, PErr a (erC R.1) x X ∧ M = [X, priA p q R.2, dsk q R.2.D]
theorem erPost_to {p q : Nat} {R : Option Er1 × Pri} {a : Int} (hg : GoodEr R.1 a) {f : FuncId} {args : List Value} {pre : List Assn} (h : Triple G f args pre (ErPost p q R)) : Triple G f args pre (PErPost p q R a) := h.mono fun v M ⟨E, hE, e⟩ => by
  obtain ⟨X, h1, h2⟩ := PErr.of hE hg
  subst e
  exact ⟨_, ⟨X, h1, rfl⟩, h2 _⟩
theorem grant_to {p q : Nat} {P : Pri} {e now : Int} {f : FuncId} {args : List Value} {pre : List Assn} (h : Triple G f args pre (fun v M => ∃ E, IsEr (grantP P e now).1 v E ∧ M = E ++ [priA p q (grantP P e now).2])) : Triple G f args pre (fun v M => ∃ X, PErr e (erC (grantP P e now).1) v X ∧ M = [X, priA p q (grantP P e now).2]) := h.mono fun v M ⟨E, hE, e1⟩ => by
  obtain ⟨X, h1, h2⟩ := PErr.of hE (grantP_er P e now)
  subst e1
  exact ⟨_, ⟨X, h1, rfl⟩, h2 _⟩
theorem grant_code (P : Pri) (e now : Int) : erC (grantP P e now).1 = (grantS P.S e now).1.getD 0 := by
  unfold grantP
  cases (grantS P.S e now).1 <;> rfl
theorem write_to {p q : Nat} {R : Except Er1 Int × Pri} {a : Int} (hg : GoodEr (erE R.1) a) {f : FuncId} {args : List Value} {pre : List Assn} (h : Triple G f args pre (WritePost p q R)) :
    Triple G f args pre (fun x M => ∃ e k cd X, x = .tuple #[.int .i64 k, e] ∧ exV R.1 = .tuple #[.int .i64 k, .int .i64 cd] ∧ PErr a cd e X ∧ M = [X, priA p q R.2, dsk q R.2.D]) := h.mono fun v M hM => by
  obtain ⟨R1, R2⟩ := R
  cases R1 with
  | ok k =>
    obtain ⟨rfl, rfl⟩ := hM
    obtain ⟨X, h1, h2⟩ := PErr.of (er := none) (v := .nilIface) (E := []) ⟨rfl, rfl⟩ (GoodEr.none a)
    exact ⟨_, ⟨_, k, 0, X, rfl, rfl, h1, rfl⟩, h2 _⟩
  | error er =>
    obtain ⟨e, E, hE, rfl, rfl⟩ := hM
    obtain ⟨X, h1, h2⟩ := PErr.of hE hg
    exact ⟨_, ⟨e, 0, er.2, X, rfl, rfl, h1, rfl⟩, h2 _⟩
theorem read_to {P : Pri} {b : Int} {v : Value} {E : List Assn} (h : PReadPost P b v E) : ∃ d e cd X, v = .tuple #[.string d, e] ∧ RVReadV P.V b = .tuple #[.string d, .int .i64 cd] ∧ PErr b cd e X ∧ ∀ L, Imp (E ++ L) (X :: L) := by
  unfold PReadPost at h
  unfold RVReadV
  cases hq : readV P.V b with
  | ok d =>
    rw [hq] at h
    obtain ⟨rfl, rfl⟩ := h
    obtain ⟨X, h1, h2⟩ := PErr.of (er := none) (v := .nilIface) (E := []) ⟨rfl, rfl⟩ (GoodEr.none b)
    exact ⟨d, _, 0, X, rfl, rfl, h1, h2⟩
  | error lc =>
    obtain ⟨l, c⟩ := lc
    rw [hq] at h
    obtain ⟨e, hE, rfl⟩ := h
    obtain ⟨X, h1, h2⟩ := PErr.of hE (readV_er hq)
    exact ⟨_, e, c, X, rfl, rfl, h1, h2⟩
theorem thaw_to {p q : Nat} {R : List Dn × Option Er1 × Pri} {a : Int} (hg : GoodEr R.2.1 a) {A : Assn} {f : FuncId} {args : List Value} {pre : List Assn} (h : Triple G f args pre (ThawPost p q R A)) :
    Triple G f args pre (fun x M => ∃ oa oc e X, x = .tuple #[.slice oa R.1.length oc, e] ∧ PErr a (erC R.2.1) e X ∧ M = [X, ownS oa R.1.length oc dnT 3 (R.1.flatMap encDn), priA p q R.2.2, dsk q R.2.2.D, A]) := h.mono fun v M hM => by
  obtain ⟨d, E, e, E', ⟨oa, oc, rfl, rfl⟩, hE, rfl, rfl⟩ := hM
  obtain ⟨X, h1, h2⟩ := PErr.of hE hg
  exact ⟨_, ⟨oa, oc, e, X, rfl, h1, rfl⟩, h2 _⟩
end Go.Proofs.YtanjfjiaheghcaaGreatDoor
