/- Contracts of functions of the given program, and plain laws: parts of the proofs of laws. -/
import Derived.Test.YtacgheafbkfciaaDoorZMK4
import Derived.Test.YtacgheafbkfciaaDoorZMK6
import Derived.Shelf.SlIterI.Nil
import Derived.Shelf.SlIterI.Sorted
import Derived.Shelf.SortM.Plain
import Derived.Shelf.SortM.SortNone
import Derived.Ground.GgzProg
import Derived.Ground.SlgmProg
import Derived.Maps.OwnSet
/- Contracts of functions of the given program, and plain laws on what they compute: parts of the proofs of laws. -/

namespace Go.Proofs.YtacgheafbkfciaaDoor
open Go Go.GL

def marksT : ByteArray := ⟨#[109, 97, 114, 107, 115]⟩
def putS (S : Int → Int → Bool) (v m : Int) : Int → Int → Bool := fun a => if a = v then (fun b => if b = m then true else S a b) else S a
theorem putS_at (S : Int → Int → Bool) (v m : Int) : putS S v m v = fun b => if b = m then true else S v b := if_pos rfl
theorem putS_ne {S : Int → Int → Bool} {v m a : Int} (h : a ≠ v) : putS S v m a = S a := if_neg h
theorem setM_put (f : Int → Bool) (k : Int) : updM (setM f) k (.bool true) = setM (fun b => if b = k then true else f b) := by
  funext x
  unfold updM setM
  by_cases h : x = k
  · simp [h]
  · simp [h]
theorem setM_none {f : Int → Bool} (h : ∀ m, f m = false) : setM f = fun _ => none := by
  funext x
  unfold setM
  rw [h x]; rfl
def refSet (x : Refs) (v : Int) (b : Nat) : Refs := (x.1, if v = 0 then some b else x.2.1, if v = 1 then some b else x.2.2.1, if v = 2 then some b else x.2.2.2.1, if v = 3 then some b else x.2.2.2.2)
theorem outM_set (x : Refs) {v : Int} (b : Nat) (h : 0 ≤ v ∧ v < 4) : updM (outM x) v (.map (some b)) = outM (refSet x v b) := by
  have hv : v = 0 ∨ v = 1 ∨ v = 2 ∨ v = 3 := by omega
  funext k
  unfold updM outM refV refAt refSet
  rcases hv with rfl | rfl | rfl | rfl <;> by_cases k0 : k = 0 <;> by_cases k1 : k = 1 <;> by_cases k2 : k = 2 <;> by_cases k3 : k = 3 <;> simp_all
theorem mtabFold (p : Nat) (S : Int → Int → Bool) (x : Refs) {f0 f1 f2 f3 : Int → Bool} {N : List Assn} (e0 : S 0 = f0) (e1 : S 1 = f1) (e2 : S 2 = f2) (e3 : S 3 = f3) :
    Imp (blk p [.map x.1] 39 :: outA x.1 (outM x) :: innO f0 x.2.1 :: innO f1 x.2.2.1 :: innO f2 x.2.2.2.1 :: innO f3 x.2.2.2.2 :: N) (mtab p S :: N) := by
  subst e0 e1 e2 e3
  exact Imp.fold (Ls := tabL p S) x
def putE (S : Int → Int → Bool) (v m : Int) : Except Int (Int → Int → Bool) := if ¬ (0 ≤ v ∧ v < 4) then .error 5 else if m < 1 then .error 1 else .ok (putS S v m)
theorem outM_get (x : Refs) (v : Int) : (outM x v).getD (.map none) = .map (refAt x v) := by
  unfold outM refV
  cases refAt x v <;> rfl
def MPut (p : Nat) (S : Int → Int → Bool) (v m : Int) (x : Value) (M : List Assn) : Prop := match putE S v m with
  | .ok S' => x = .nilIface ∧ M = [mtab p S']
  | .error c => ∃ E, IsEr (some ([(marksT, v)], c)) x E ∧ M = E ++ [mtab p S]
set_option maxHeartbeats 16000000 in
set_option maxRecDepth 10000 in
theorem mput_ok (p : Nat) (S : Int → Int → Bool) (v m : Int) :
    Triple G 8 [.pointer (some ⟨p, 0, none⟩), .int .i64 v, .int .i64 m] [mtab p S] (MPut p S v m) := by
  refine Triple.enter Tryd.func8 rfl (by decide) rfl Tryd.ntmps8 rfl (fun F => ?_)
  unfold MPut
  by_cases h0 : v < 0
  · rw [show putE S v m = .error 5 by unfold putE; rw [if_pos (by omega)]]
    repeat (first | refine GD ?_ | refine NW fun _ => ?_)
    refine WL.step rfl (OP.call (pre := []) rfl rfl (wrap_ok marksT v 5 (by decide)) PS rfl rfl ?_)
    intro x M hF
    obtain ⟨M', h1, h2⟩ := hF.isEr
    repeat (first | refine GD ?_ | refine NW fun _ => ?_)
    refine ret1 rfl ⟨M' ++ [mtab p S], ⟨M', h1, rfl⟩, ?_⟩
    rw [List.append_assoc]
    exact (Imp.app h2 _).trans (Imp.appL II _)
  by_cases h4 : 4 ≤ v
  · rw [show putE S v m = .error 5 by unfold putE; rw [if_pos (by omega)]]
    repeat (first | refine GD ?_ | refine NW fun _ => ?_)
    refine WL.step rfl (OP.call (pre := []) rfl rfl (wrap_ok marksT v 5 (by decide)) PS rfl rfl ?_)
    intro x M hF
    obtain ⟨M', h1, h2⟩ := hF.isEr
    repeat (first | refine GD ?_ | refine NW fun _ => ?_)
    refine ret1 rfl ⟨M' ++ [mtab p S], ⟨M', h1, rfl⟩, ?_⟩
    rw [List.append_assoc]
    exact (Imp.app h2 _).trans (Imp.appL II _)
  by_cases h1 : m < 1
  · rw [show putE S v m = .error 1 by unfold putE; rw [if_neg (by omega), if_pos h1]]
    repeat (first | refine GD ?_ | refine NW fun _ => ?_)
    refine WL.step rfl (OP.call (pre := []) rfl rfl (wrap_ok marksT v 1 (by decide)) PS rfl rfl ?_)
    intro x M hF
    obtain ⟨M', h1, h2⟩ := hF.isEr
    repeat (first | refine GD ?_ | refine NW fun _ => ?_)
    refine ret1 rfl ⟨M' ++ [mtab p S], ⟨M', h1, rfl⟩, ?_⟩
    rw [List.append_assoc]
    exact (Imp.app h2 _).trans (Imp.appL II _)
  rw [show putE S v m = .ok (putS S v m) by unfold putE; rw [if_neg (by omega), if_neg h1]]
  have hv4 : 0 ≤ v ∧ v < 4 := by omega
  refine WC.open (M := [F]) (Ls := tabL p S) II (fun x => ?_)
  unfold tabL
  dsimp only [List.cons_append, List.nil_append]
  obtain ⟨mo, a, b, c, d⟩ := x
  dsimp only
  have hz : ∀ {f : Int → Bool}, (∀ k, f k = false) → updM (fun _ => none) m (.bool true) = setM (fun b => if b = m then true else f b) := fun h => by rw [← setM_none h, setM_put]
  have ho : ∀ (r : Nat) (m : Int → Option Value), outA (some r) m = mapA r m := fun _ _ => rfl
  have hi : ∀ (f : Int → Bool) (r : Nat), innO f (some r) = mapA r (setM f) := fun _ _ => rfl
  have hn : ∀ {a : Option Nat}, refV a = none → a = none := fun {a} h => by cases a; rfl; cases h
  have hv : v = 0 ∨ v = 1 ∨ v = 2 ∨ v = 3 := by omega
  rcases hv with rfl | rfl | rfl | rfl
  · repeat (first | refine GD ?_ | refine NW fun _ => ?_)
    refine WL.step rfl (OP.mapNil rfl rfl rfl rfl rfl rfl ?_)
    cases mo with
    | none =>
      refine WL.fact (Ent.mem (A := outA none (outM (none, a, b, c, d))) MM (up_outA _ _) (fun _ x => x)) (fun hall => ?_)
      obtain rfl : a = none := hn (hall 0)
      obtain rfl : b = none := hn (hall 1)
      obtain rfl : c = none := hn (hall 2)
      obtain rfl : d = none := hn (hall 3)
      refine WL.fact (Ent.mem (A := innO (S 0) none) MM (up_innO _ _) (fun _ x => x)) (fun hfl => ?_)
      repeat (first | refine GD ?_ | refine NW fun _ => ?_)
      refine WL.step rfl (OP.makeMap rfl rfl rfl rfl (fun ro => ?_))
      rw [show (fun _ => none : Int → Option Value) = outM (some ro, none, none, none, none) by funext k; unfold outM refAt refV; simp]
      repeat (first | refine GD ?_ | refine NW fun _ => ?_)
      refine WL.step rfl (OP.lookup (z := .map none) (m := outM (some ro, none, none, none, none)) rfl rfl rfl rfl rfl rfl rfl rfl rfl (Ent.at (up_mapA _ _) MM) rfl rfl ?_)
      rw [outM_get, show refAt (some ro, none, none, none, none) 0 = none from rfl]
      refine WL.step rfl (OP.mapNil rfl rfl rfl rfl rfl rfl ?_)
      repeat (first | refine GD ?_ | refine NW fun _ => ?_)
      refine WL.step rfl (OP.makeMap rfl rfl rfl rfl (fun b2 => ?_))
      refine WL.step rfl (OP.mapUpdate rfl rfl rfl rfl rfl rfl rfl rfl (show Imp _ (mapA ro (outM (some ro, none, none, none, none)) :: _) from P1) rfl ?_)
      rw [outM_set _ b2 (by decide), show refSet (some ro, none, none, none, none) 0 b2 = (some ro, some b2, none, none, none) from rfl]
      repeat (first | refine GD ?_ | refine NW fun _ => ?_)
      refine WL.step rfl (OP.lookup (z := .map none) (m := outM (some ro, some b2, none, none, none)) rfl rfl rfl rfl rfl rfl rfl rfl rfl (Ent.at (up_mapA _ _) MM) rfl rfl ?_)
      rw [outM_get, show refAt (some ro, some b2, none, none, none) 0 = some b2 from rfl]
      repeat (first | refine GD ?_ | refine NW fun _ => ?_)
      refine WL.step rfl (OP.mapUpdate rfl rfl rfl rfl rfl rfl rfl rfl (show Imp _ (mapA b2 (fun _ => none) :: _) from P1) rfl ?_)
      rw [(hz hfl)]
      repeat (first | refine GD ?_ | refine NW fun _ => ?_)
      refine ret1 rfl ⟨[mtab p (putS S 0 m)], ⟨rfl, rfl⟩, ?_⟩
      exact Imp.trans II (mtabFold p (putS S 0 m) (some ro, some b2, none, none, none) (putS_at S 0 m) (putS_ne (by decide)) (putS_ne (by decide)) (putS_ne (by decide)))
    | some ro =>
      rw [ho]
      repeat (first | refine GD ?_ | refine NW fun _ => ?_)
      cases a with
      | none =>
        refine WL.fact (Ent.mem (A := innO (S 0) none) MM (up_innO _ _) (fun _ x => x)) (fun hfl => ?_)
        refine WL.step rfl (OP.lookup (z := .map none) (m := outM (some ro, none, b, c, d)) rfl rfl rfl rfl rfl rfl rfl rfl rfl (Ent.at (up_mapA _ _) MM) rfl rfl ?_)
        rw [outM_get, show refAt (some ro, none, b, c, d) 0 = none from rfl]
        refine WL.step rfl (OP.mapNil rfl rfl rfl rfl rfl rfl ?_)
        repeat (first | refine GD ?_ | refine NW fun _ => ?_)
        refine WL.step rfl (OP.makeMap rfl rfl rfl rfl (fun b2 => ?_))
        refine WL.step rfl (OP.mapUpdate rfl rfl rfl rfl rfl rfl rfl rfl (show Imp _ (mapA ro (outM (some ro, none, b, c, d)) :: _) from P1) rfl ?_)
        rw [outM_set _ b2 (by decide), show refSet (some ro, none, b, c, d) 0 b2 = (some ro, some b2, b, c, d) from rfl]
        repeat (first | refine GD ?_ | refine NW fun _ => ?_)
        refine WL.step rfl (OP.lookup (z := .map none) (m := outM (some ro, some b2, b, c, d)) rfl rfl rfl rfl rfl rfl rfl rfl rfl (Ent.at (up_mapA _ _) MM) rfl rfl ?_)
        rw [outM_get, show refAt (some ro, some b2, b, c, d) 0 = some b2 from rfl]
        repeat (first | refine GD ?_ | refine NW fun _ => ?_)
        refine WL.step rfl (OP.mapUpdate rfl rfl rfl rfl rfl rfl rfl rfl (show Imp _ (mapA b2 (fun _ => none) :: _) from P1) rfl ?_)
        rw [(hz hfl)]
        repeat (first | refine GD ?_ | refine NW fun _ => ?_)
        refine ret1 rfl ⟨[mtab p (putS S 0 m)], ⟨rfl, rfl⟩, ?_⟩
        exact Imp.trans II (mtabFold p (putS S 0 m) (some ro, some b2, b, c, d) (putS_at S 0 m) (putS_ne (by decide)) (putS_ne (by decide)) (putS_ne (by decide)))
      | some r2 =>
        rw [hi]
        refine WL.step rfl (OP.lookup (z := .map none) (m := outM (some ro, some r2, b, c, d)) rfl rfl rfl rfl rfl rfl rfl rfl rfl (Ent.at (up_mapA _ _) MM) rfl rfl ?_)
        rw [outM_get, show refAt (some ro, some r2, b, c, d) 0 = some r2 from rfl]
        refine WL.step rfl (OP.mapNil rfl rfl rfl rfl rfl rfl ?_)
        repeat (first | refine GD ?_ | refine NW fun _ => ?_)
        refine WL.step rfl (OP.lookup (z := .map none) (m := outM (some ro, some r2, b, c, d)) rfl rfl rfl rfl rfl rfl rfl rfl rfl (Ent.at (up_mapA _ _) MM) rfl rfl ?_)
        rw [outM_get, show refAt (some ro, some r2, b, c, d) 0 = some r2 from rfl]
        repeat (first | refine GD ?_ | refine NW fun _ => ?_)
        refine WL.step rfl (OP.mapUpdate rfl rfl rfl rfl rfl rfl rfl rfl (show Imp _ (mapA r2 (setM (S 0)) :: _) from P1) rfl ?_)
        rw [setM_put]
        repeat (first | refine GD ?_ | refine NW fun _ => ?_)
        refine ret1 rfl ⟨[mtab p (putS S 0 m)], ⟨rfl, rfl⟩, ?_⟩
        exact Imp.trans II (mtabFold p (putS S 0 m) (some ro, some r2, b, c, d) (putS_at S 0 m) (putS_ne (by decide)) (putS_ne (by decide)) (putS_ne (by decide)))
  · repeat (first | refine GD ?_ | refine NW fun _ => ?_)
    refine WL.step rfl (OP.mapNil rfl rfl rfl rfl rfl rfl ?_)
    cases mo with
    | none =>
      refine WL.fact (Ent.mem (A := outA none (outM (none, a, b, c, d))) MM (up_outA _ _) (fun _ x => x)) (fun hall => ?_)
      obtain rfl : a = none := hn (hall 0)
      obtain rfl : b = none := hn (hall 1)
      obtain rfl : c = none := hn (hall 2)
      obtain rfl : d = none := hn (hall 3)
      refine WL.fact (Ent.mem (A := innO (S 1) none) MM (up_innO _ _) (fun _ x => x)) (fun hfl => ?_)
      repeat (first | refine GD ?_ | refine NW fun _ => ?_)
      refine WL.step rfl (OP.makeMap rfl rfl rfl rfl (fun ro => ?_))
      rw [show (fun _ => none : Int → Option Value) = outM (some ro, none, none, none, none) by funext k; unfold outM refAt refV; simp]
      repeat (first | refine GD ?_ | refine NW fun _ => ?_)
      refine WL.step rfl (OP.lookup (z := .map none) (m := outM (some ro, none, none, none, none)) rfl rfl rfl rfl rfl rfl rfl rfl rfl (Ent.at (up_mapA _ _) MM) rfl rfl ?_)
      rw [outM_get, show refAt (some ro, none, none, none, none) 1 = none from rfl]
      refine WL.step rfl (OP.mapNil rfl rfl rfl rfl rfl rfl ?_)
      repeat (first | refine GD ?_ | refine NW fun _ => ?_)
      refine WL.step rfl (OP.makeMap rfl rfl rfl rfl (fun b2 => ?_))
      refine WL.step rfl (OP.mapUpdate rfl rfl rfl rfl rfl rfl rfl rfl (show Imp _ (mapA ro (outM (some ro, none, none, none, none)) :: _) from P1) rfl ?_)
      rw [outM_set _ b2 (by decide), show refSet (some ro, none, none, none, none) 1 b2 = (some ro, none, some b2, none, none) from rfl]
      repeat (first | refine GD ?_ | refine NW fun _ => ?_)
      refine WL.step rfl (OP.lookup (z := .map none) (m := outM (some ro, none, some b2, none, none)) rfl rfl rfl rfl rfl rfl rfl rfl rfl (Ent.at (up_mapA _ _) MM) rfl rfl ?_)
      rw [outM_get, show refAt (some ro, none, some b2, none, none) 1 = some b2 from rfl]
      repeat (first | refine GD ?_ | refine NW fun _ => ?_)
      refine WL.step rfl (OP.mapUpdate rfl rfl rfl rfl rfl rfl rfl rfl (show Imp _ (mapA b2 (fun _ => none) :: _) from P1) rfl ?_)
      rw [(hz hfl)]
      repeat (first | refine GD ?_ | refine NW fun _ => ?_)
      refine ret1 rfl ⟨[mtab p (putS S 1 m)], ⟨rfl, rfl⟩, ?_⟩
      exact Imp.trans II (mtabFold p (putS S 1 m) (some ro, none, some b2, none, none) (putS_ne (by decide)) (putS_at S 1 m) (putS_ne (by decide)) (putS_ne (by decide)))
    | some ro =>
      rw [ho]
      repeat (first | refine GD ?_ | refine NW fun _ => ?_)
      cases b with
      | none =>
        refine WL.fact (Ent.mem (A := innO (S 1) none) MM (up_innO _ _) (fun _ x => x)) (fun hfl => ?_)
        refine WL.step rfl (OP.lookup (z := .map none) (m := outM (some ro, a, none, c, d)) rfl rfl rfl rfl rfl rfl rfl rfl rfl (Ent.at (up_mapA _ _) MM) rfl rfl ?_)
        rw [outM_get, show refAt (some ro, a, none, c, d) 1 = none from rfl]
        refine WL.step rfl (OP.mapNil rfl rfl rfl rfl rfl rfl ?_)
        repeat (first | refine GD ?_ | refine NW fun _ => ?_)
        refine WL.step rfl (OP.makeMap rfl rfl rfl rfl (fun b2 => ?_))
        refine WL.step rfl (OP.mapUpdate rfl rfl rfl rfl rfl rfl rfl rfl (show Imp _ (mapA ro (outM (some ro, a, none, c, d)) :: _) from P1) rfl ?_)
        rw [outM_set _ b2 (by decide), show refSet (some ro, a, none, c, d) 1 b2 = (some ro, a, some b2, c, d) from rfl]
        repeat (first | refine GD ?_ | refine NW fun _ => ?_)
        refine WL.step rfl (OP.lookup (z := .map none) (m := outM (some ro, a, some b2, c, d)) rfl rfl rfl rfl rfl rfl rfl rfl rfl (Ent.at (up_mapA _ _) MM) rfl rfl ?_)
        rw [outM_get, show refAt (some ro, a, some b2, c, d) 1 = some b2 from rfl]
        repeat (first | refine GD ?_ | refine NW fun _ => ?_)
        refine WL.step rfl (OP.mapUpdate rfl rfl rfl rfl rfl rfl rfl rfl (show Imp _ (mapA b2 (fun _ => none) :: _) from P1) rfl ?_)
        rw [(hz hfl)]
        repeat (first | refine GD ?_ | refine NW fun _ => ?_)
        refine ret1 rfl ⟨[mtab p (putS S 1 m)], ⟨rfl, rfl⟩, ?_⟩
        exact Imp.trans II (mtabFold p (putS S 1 m) (some ro, a, some b2, c, d) (putS_ne (by decide)) (putS_at S 1 m) (putS_ne (by decide)) (putS_ne (by decide)))
      | some r2 =>
        rw [hi]
        refine WL.step rfl (OP.lookup (z := .map none) (m := outM (some ro, a, some r2, c, d)) rfl rfl rfl rfl rfl rfl rfl rfl rfl (Ent.at (up_mapA _ _) MM) rfl rfl ?_)
        rw [outM_get, show refAt (some ro, a, some r2, c, d) 1 = some r2 from rfl]
        refine WL.step rfl (OP.mapNil rfl rfl rfl rfl rfl rfl ?_)
        repeat (first | refine GD ?_ | refine NW fun _ => ?_)
        refine WL.step rfl (OP.lookup (z := .map none) (m := outM (some ro, a, some r2, c, d)) rfl rfl rfl rfl rfl rfl rfl rfl rfl (Ent.at (up_mapA _ _) MM) rfl rfl ?_)
        rw [outM_get, show refAt (some ro, a, some r2, c, d) 1 = some r2 from rfl]
        repeat (first | refine GD ?_ | refine NW fun _ => ?_)
        refine WL.step rfl (OP.mapUpdate rfl rfl rfl rfl rfl rfl rfl rfl (show Imp _ (mapA r2 (setM (S 1)) :: _) from P1) rfl ?_)
        rw [setM_put]
        repeat (first | refine GD ?_ | refine NW fun _ => ?_)
        refine ret1 rfl ⟨[mtab p (putS S 1 m)], ⟨rfl, rfl⟩, ?_⟩
        exact Imp.trans II (mtabFold p (putS S 1 m) (some ro, a, some r2, c, d) (putS_ne (by decide)) (putS_at S 1 m) (putS_ne (by decide)) (putS_ne (by decide)))
  · repeat (first | refine GD ?_ | refine NW fun _ => ?_)
    refine WL.step rfl (OP.mapNil rfl rfl rfl rfl rfl rfl ?_)
    cases mo with
    | none =>
      refine WL.fact (Ent.mem (A := outA none (outM (none, a, b, c, d))) MM (up_outA _ _) (fun _ x => x)) (fun hall => ?_)
      obtain rfl : a = none := hn (hall 0)
      obtain rfl : b = none := hn (hall 1)
      obtain rfl : c = none := hn (hall 2)
      obtain rfl : d = none := hn (hall 3)
      refine WL.fact (Ent.mem (A := innO (S 2) none) MM (up_innO _ _) (fun _ x => x)) (fun hfl => ?_)
      repeat (first | refine GD ?_ | refine NW fun _ => ?_)
      refine WL.step rfl (OP.makeMap rfl rfl rfl rfl (fun ro => ?_))
      rw [show (fun _ => none : Int → Option Value) = outM (some ro, none, none, none, none) by funext k; unfold outM refAt refV; simp]
      repeat (first | refine GD ?_ | refine NW fun _ => ?_)
      refine WL.step rfl (OP.lookup (z := .map none) (m := outM (some ro, none, none, none, none)) rfl rfl rfl rfl rfl rfl rfl rfl rfl (Ent.at (up_mapA _ _) MM) rfl rfl ?_)
      rw [outM_get, show refAt (some ro, none, none, none, none) 2 = none from rfl]
      refine WL.step rfl (OP.mapNil rfl rfl rfl rfl rfl rfl ?_)
      repeat (first | refine GD ?_ | refine NW fun _ => ?_)
      refine WL.step rfl (OP.makeMap rfl rfl rfl rfl (fun b2 => ?_))
      refine WL.step rfl (OP.mapUpdate rfl rfl rfl rfl rfl rfl rfl rfl (show Imp _ (mapA ro (outM (some ro, none, none, none, none)) :: _) from P1) rfl ?_)
      rw [outM_set _ b2 (by decide), show refSet (some ro, none, none, none, none) 2 b2 = (some ro, none, none, some b2, none) from rfl]
      repeat (first | refine GD ?_ | refine NW fun _ => ?_)
      refine WL.step rfl (OP.lookup (z := .map none) (m := outM (some ro, none, none, some b2, none)) rfl rfl rfl rfl rfl rfl rfl rfl rfl (Ent.at (up_mapA _ _) MM) rfl rfl ?_)
      rw [outM_get, show refAt (some ro, none, none, some b2, none) 2 = some b2 from rfl]
      repeat (first | refine GD ?_ | refine NW fun _ => ?_)
      refine WL.step rfl (OP.mapUpdate rfl rfl rfl rfl rfl rfl rfl rfl (show Imp _ (mapA b2 (fun _ => none) :: _) from P1) rfl ?_)
      rw [(hz hfl)]
      repeat (first | refine GD ?_ | refine NW fun _ => ?_)
      refine ret1 rfl ⟨[mtab p (putS S 2 m)], ⟨rfl, rfl⟩, ?_⟩
      exact Imp.trans II (mtabFold p (putS S 2 m) (some ro, none, none, some b2, none) (putS_ne (by decide)) (putS_ne (by decide)) (putS_at S 2 m) (putS_ne (by decide)))
    | some ro =>
      rw [ho]
      repeat (first | refine GD ?_ | refine NW fun _ => ?_)
      cases c with
      | none =>
        refine WL.fact (Ent.mem (A := innO (S 2) none) MM (up_innO _ _) (fun _ x => x)) (fun hfl => ?_)
        refine WL.step rfl (OP.lookup (z := .map none) (m := outM (some ro, a, b, none, d)) rfl rfl rfl rfl rfl rfl rfl rfl rfl (Ent.at (up_mapA _ _) MM) rfl rfl ?_)
        rw [outM_get, show refAt (some ro, a, b, none, d) 2 = none from rfl]
        refine WL.step rfl (OP.mapNil rfl rfl rfl rfl rfl rfl ?_)
        repeat (first | refine GD ?_ | refine NW fun _ => ?_)
        refine WL.step rfl (OP.makeMap rfl rfl rfl rfl (fun b2 => ?_))
        refine WL.step rfl (OP.mapUpdate rfl rfl rfl rfl rfl rfl rfl rfl (show Imp _ (mapA ro (outM (some ro, a, b, none, d)) :: _) from P1) rfl ?_)
        rw [outM_set _ b2 (by decide), show refSet (some ro, a, b, none, d) 2 b2 = (some ro, a, b, some b2, d) from rfl]
        repeat (first | refine GD ?_ | refine NW fun _ => ?_)
        refine WL.step rfl (OP.lookup (z := .map none) (m := outM (some ro, a, b, some b2, d)) rfl rfl rfl rfl rfl rfl rfl rfl rfl (Ent.at (up_mapA _ _) MM) rfl rfl ?_)
        rw [outM_get, show refAt (some ro, a, b, some b2, d) 2 = some b2 from rfl]
        repeat (first | refine GD ?_ | refine NW fun _ => ?_)
        refine WL.step rfl (OP.mapUpdate rfl rfl rfl rfl rfl rfl rfl rfl (show Imp _ (mapA b2 (fun _ => none) :: _) from P1) rfl ?_)
        rw [(hz hfl)]
        repeat (first | refine GD ?_ | refine NW fun _ => ?_)
        refine ret1 rfl ⟨[mtab p (putS S 2 m)], ⟨rfl, rfl⟩, ?_⟩
        exact Imp.trans II (mtabFold p (putS S 2 m) (some ro, a, b, some b2, d) (putS_ne (by decide)) (putS_ne (by decide)) (putS_at S 2 m) (putS_ne (by decide)))
      | some r2 =>
        rw [hi]
        refine WL.step rfl (OP.lookup (z := .map none) (m := outM (some ro, a, b, some r2, d)) rfl rfl rfl rfl rfl rfl rfl rfl rfl (Ent.at (up_mapA _ _) MM) rfl rfl ?_)
        rw [outM_get, show refAt (some ro, a, b, some r2, d) 2 = some r2 from rfl]
        refine WL.step rfl (OP.mapNil rfl rfl rfl rfl rfl rfl ?_)
        repeat (first | refine GD ?_ | refine NW fun _ => ?_)
        refine WL.step rfl (OP.lookup (z := .map none) (m := outM (some ro, a, b, some r2, d)) rfl rfl rfl rfl rfl rfl rfl rfl rfl (Ent.at (up_mapA _ _) MM) rfl rfl ?_)
        rw [outM_get, show refAt (some ro, a, b, some r2, d) 2 = some r2 from rfl]
        repeat (first | refine GD ?_ | refine NW fun _ => ?_)
        refine WL.step rfl (OP.mapUpdate rfl rfl rfl rfl rfl rfl rfl rfl (show Imp _ (mapA r2 (setM (S 2)) :: _) from P1) rfl ?_)
        rw [setM_put]
        repeat (first | refine GD ?_ | refine NW fun _ => ?_)
        refine ret1 rfl ⟨[mtab p (putS S 2 m)], ⟨rfl, rfl⟩, ?_⟩
        exact Imp.trans II (mtabFold p (putS S 2 m) (some ro, a, b, some r2, d) (putS_ne (by decide)) (putS_ne (by decide)) (putS_at S 2 m) (putS_ne (by decide)))
  · repeat (first | refine GD ?_ | refine NW fun _ => ?_)
    refine WL.step rfl (OP.mapNil rfl rfl rfl rfl rfl rfl ?_)
    cases mo with
    | none =>
      refine WL.fact (Ent.mem (A := outA none (outM (none, a, b, c, d))) MM (up_outA _ _) (fun _ x => x)) (fun hall => ?_)
      obtain rfl : a = none := hn (hall 0)
      obtain rfl : b = none := hn (hall 1)
      obtain rfl : c = none := hn (hall 2)
      obtain rfl : d = none := hn (hall 3)
      refine WL.fact (Ent.mem (A := innO (S 3) none) MM (up_innO _ _) (fun _ x => x)) (fun hfl => ?_)
      repeat (first | refine GD ?_ | refine NW fun _ => ?_)
      refine WL.step rfl (OP.makeMap rfl rfl rfl rfl (fun ro => ?_))
      rw [show (fun _ => none : Int → Option Value) = outM (some ro, none, none, none, none) by funext k; unfold outM refAt refV; simp]
      repeat (first | refine GD ?_ | refine NW fun _ => ?_)
      refine WL.step rfl (OP.lookup (z := .map none) (m := outM (some ro, none, none, none, none)) rfl rfl rfl rfl rfl rfl rfl rfl rfl (Ent.at (up_mapA _ _) MM) rfl rfl ?_)
      rw [outM_get, show refAt (some ro, none, none, none, none) 3 = none from rfl]
      refine WL.step rfl (OP.mapNil rfl rfl rfl rfl rfl rfl ?_)
      repeat (first | refine GD ?_ | refine NW fun _ => ?_)
      refine WL.step rfl (OP.makeMap rfl rfl rfl rfl (fun b2 => ?_))
      refine WL.step rfl (OP.mapUpdate rfl rfl rfl rfl rfl rfl rfl rfl (show Imp _ (mapA ro (outM (some ro, none, none, none, none)) :: _) from P1) rfl ?_)
      rw [outM_set _ b2 (by decide), show refSet (some ro, none, none, none, none) 3 b2 = (some ro, none, none, none, some b2) from rfl]
      repeat (first | refine GD ?_ | refine NW fun _ => ?_)
      refine WL.step rfl (OP.lookup (z := .map none) (m := outM (some ro, none, none, none, some b2)) rfl rfl rfl rfl rfl rfl rfl rfl rfl (Ent.at (up_mapA _ _) MM) rfl rfl ?_)
      rw [outM_get, show refAt (some ro, none, none, none, some b2) 3 = some b2 from rfl]
      repeat (first | refine GD ?_ | refine NW fun _ => ?_)
      refine WL.step rfl (OP.mapUpdate rfl rfl rfl rfl rfl rfl rfl rfl (show Imp _ (mapA b2 (fun _ => none) :: _) from P1) rfl ?_)
      rw [(hz hfl)]
      repeat (first | refine GD ?_ | refine NW fun _ => ?_)
      refine ret1 rfl ⟨[mtab p (putS S 3 m)], ⟨rfl, rfl⟩, ?_⟩
      exact Imp.trans II (mtabFold p (putS S 3 m) (some ro, none, none, none, some b2) (putS_ne (by decide)) (putS_ne (by decide)) (putS_ne (by decide)) (putS_at S 3 m))
    | some ro =>
      rw [ho]
      repeat (first | refine GD ?_ | refine NW fun _ => ?_)
      cases d with
      | none =>
        refine WL.fact (Ent.mem (A := innO (S 3) none) MM (up_innO _ _) (fun _ x => x)) (fun hfl => ?_)
        refine WL.step rfl (OP.lookup (z := .map none) (m := outM (some ro, a, b, c, none)) rfl rfl rfl rfl rfl rfl rfl rfl rfl (Ent.at (up_mapA _ _) MM) rfl rfl ?_)
        rw [outM_get, show refAt (some ro, a, b, c, none) 3 = none from rfl]
        refine WL.step rfl (OP.mapNil rfl rfl rfl rfl rfl rfl ?_)
        repeat (first | refine GD ?_ | refine NW fun _ => ?_)
        refine WL.step rfl (OP.makeMap rfl rfl rfl rfl (fun b2 => ?_))
        refine WL.step rfl (OP.mapUpdate rfl rfl rfl rfl rfl rfl rfl rfl (show Imp _ (mapA ro (outM (some ro, a, b, c, none)) :: _) from P1) rfl ?_)
        rw [outM_set _ b2 (by decide), show refSet (some ro, a, b, c, none) 3 b2 = (some ro, a, b, c, some b2) from rfl]
        repeat (first | refine GD ?_ | refine NW fun _ => ?_)
        refine WL.step rfl (OP.lookup (z := .map none) (m := outM (some ro, a, b, c, some b2)) rfl rfl rfl rfl rfl rfl rfl rfl rfl (Ent.at (up_mapA _ _) MM) rfl rfl ?_)
        rw [outM_get, show refAt (some ro, a, b, c, some b2) 3 = some b2 from rfl]
        repeat (first | refine GD ?_ | refine NW fun _ => ?_)
        refine WL.step rfl (OP.mapUpdate rfl rfl rfl rfl rfl rfl rfl rfl (show Imp _ (mapA b2 (fun _ => none) :: _) from P1) rfl ?_)
        rw [(hz hfl)]
        repeat (first | refine GD ?_ | refine NW fun _ => ?_)
        refine ret1 rfl ⟨[mtab p (putS S 3 m)], ⟨rfl, rfl⟩, ?_⟩
        exact Imp.trans II (mtabFold p (putS S 3 m) (some ro, a, b, c, some b2) (putS_ne (by decide)) (putS_ne (by decide)) (putS_ne (by decide)) (putS_at S 3 m))
      | some r2 =>
        rw [hi]
        refine WL.step rfl (OP.lookup (z := .map none) (m := outM (some ro, a, b, c, some r2)) rfl rfl rfl rfl rfl rfl rfl rfl rfl (Ent.at (up_mapA _ _) MM) rfl rfl ?_)
        rw [outM_get, show refAt (some ro, a, b, c, some r2) 3 = some r2 from rfl]
        refine WL.step rfl (OP.mapNil rfl rfl rfl rfl rfl rfl ?_)
        repeat (first | refine GD ?_ | refine NW fun _ => ?_)
        refine WL.step rfl (OP.lookup (z := .map none) (m := outM (some ro, a, b, c, some r2)) rfl rfl rfl rfl rfl rfl rfl rfl rfl (Ent.at (up_mapA _ _) MM) rfl rfl ?_)
        rw [outM_get, show refAt (some ro, a, b, c, some r2) 3 = some r2 from rfl]
        repeat (first | refine GD ?_ | refine NW fun _ => ?_)
        refine WL.step rfl (OP.mapUpdate rfl rfl rfl rfl rfl rfl rfl rfl (show Imp _ (mapA r2 (setM (S 3)) :: _) from P1) rfl ?_)
        rw [setM_put]
        repeat (first | refine GD ?_ | refine NW fun _ => ?_)
        refine ret1 rfl ⟨[mtab p (putS S 3 m)], ⟨rfl, rfl⟩, ?_⟩
        exact Imp.trans II (mtabFold p (putS S 3 m) (some ro, a, b, c, some r2) (putS_ne (by decide)) (putS_ne (by decide)) (putS_ne (by decide)) (putS_at S 3 m))
end Go.Proofs.YtacgheafbkfciaaDoor
/- Contracts of functions of the given program, and plain laws on what they compute: parts of the proofs of laws. -/

namespace Go.Proofs
open Go Go.GL Go.RowKit Go.Maps Go.Sort Go.Shelf

shelf_lay_g SlLaysZI.n7 Ggz 7 at Tryd 23 as YtacgheafbkfciaaDoor.keysA
shelf_lay_g SlLaysZI.n6 Ggz 6 at Tryd 22 as YtacgheafbkfciaaDoor.sortedA
shelf_lay_g SlLaysM.n5 Slgm 5 at Tryd 33 as YtacgheafbkfciaaDoor.sortA
end Go.Proofs
namespace Go.Proofs.YtacgheafbkfciaaDoor
open Go Go.GL Go.RowKit Go.Maps Go.Sort Go.Shelf Go.Proofs
theorem keys_rt (mo : Option Nat) : RT G 23 [.map mo] (fun _ => True) (fun v E => ∃ b, v = .func (.func 34) #[] #[.pointer (some ⟨b, 0, none⟩)] ∧ E = [blk b [.map mo] 52]) := by
  refine ⟨⟨_, _, Tryd.func23, by decide, rfl⟩, fun M w _ hs => ?_⟩
  have h := (callsIn_wide (n := 5)).1 (AnyZI.keys_in keysA Fence.wide 5 trivial rfl mo w)
  refine Calls.mono h ?_
  rintro e w' ⟨rfl, rfl⟩
  exact ⟨_, _, rfl, ⟨w.heap.size, rfl, rfl⟩, hs.new [.map mo] _⟩
/-- the sorted list of what is told -/
def SortedOf (f : Int → Bool) (l : List Int) : Prop := l.Pairwise (· < ·) ∧ ∀ k, k ∈ l ↔ f k = true
theorem sorts_any (m : Nat) : AnyZI.SortsIn Tryd.prog sortedA_ren Fence.wide m :=
  ⟨fun blk off cap ss W hH hblk hsz => callsIn_wide.2 (AnyM.slices_Sort_int sortA blk off cap ss W hH hblk hsz),
   fun p cap W => callsIn_wide.2 (AnyM.slices_Sort_int_none sortA p cap W)⟩
theorem fitI {P : Program} {k : TypeId} (hk : P.underlying k = some (.int .i64)) {a : Int} (hw : (Lit.int .i64 a).wf = true) : keyOf P k (.int .i64 a) = some (.int .i64 a) := by
  simp [keyOf, hk, mapKey, hw]
set_option maxHeartbeats 1000000 in
theorem sortedK_rt (b : Nat) (mo : Option Nat) (f : Int → Bool) (hw : ∀ k, f k = true → (Lit.int .i64 k).wf = true) (hsz : ∀ es clock, MapEs (setM f) es clock → es.size ≤ 100000) :
    RT G 22 [.func (.func 34) #[] #[.pointer (some ⟨b, 0, none⟩)]] (fun h => cellsAt b 0 [.map mo] h ∧ innO f mo h) (fun v E => ∃ a cap l, SortedOf f l ∧ v = .slice a l.length cap ∧ E = [ownS a l.length cap 3 1 (l.map iV)]) := by
  refine ⟨⟨_, _, Tryd.func22, by decide, rfl⟩, fun M w he hs => ?_⟩
  obtain ⟨hcell, hinn⟩ := he _ hs
  obtain ⟨c, T, fr, hb, hc⟩ := hcell
  have hcl : w.cell? ⟨b, 0, none⟩ = some (.map mo) := by
    have h1 := hpOf_obj.1 hb
    have h2 := hc 0 (.map mo) rfl
    simp [World.cell?, h1]
    simpa using h2
  have hbl : b < w.heap.size := (Array.getElem?_eq_some_iff.1 (hpOf_obj.1 hb)).1
  have hu3 : Tryd.prog.underlying 3 = some (.int .i64) := Tryd.underlying3
  have key : ∀ (N : Nat) (S : List Int → Prop), N ≤ 100000 → SeqGives Fence.wide 1 Tryd.prog 34 #[.pointer (some ⟨b, 0, none⟩)] encZ S N w → (∀ ss, S ss → ss.Nodup ∧ ∀ k, k ∈ ss ↔ f k = true) →
      Calls Tryd.prog 22 #[.func (.func 34) #[] #[.pointer (some ⟨b, 0, none⟩)]] w (fun e w' => ∃ v E, e = .returned v ∧ (∃ a cap l, SortedOf f l ∧ v = .slice a l.length cap ∧ E = [ownS a l.length cap 3 1 (l.map iV)]) ∧ Sat (E ++ M) w') := by
    intro N S hN hseq hS
    have cS := AnyZI.sorted_in sortedA Fence.wide 4 trivial trivial trivial trivial rfl (by omega) (sorts_any _) (enters_of Tryd.func33 (by kernel_rfl) rfl) 34 #[.pointer (some ⟨b, 0, none⟩)] trivial (enters_of Tryd.func34 (by kernel_rfl) rfl) S N (by unfold maxLen; omega) (by omega) w hseq
    refine Calls.mono ((callsIn_wide (n := 4)).1 cS) ?_
    rintro e w' ⟨v, ss, rfl, hs1, hrow, _, hbelow⟩
    obtain ⟨hnd, hmem⟩ := hS ss hs1
    have hlen : (ss.mergeSort (fun x y => decide (x ≤ y))).length = ss.length := List.length_mergeSort ss
    rw [← hlen] at hrow
    obtain ⟨a, cap, rfl, hsat⟩ := hs.ofRow hbelow hrow
    refine ⟨_, _, rfl, ⟨a, cap, ss.mergeSort (fun x y => decide (x ≤ y)), ⟨?_, fun k => ?_⟩, rfl, rfl⟩, hsat⟩
    · have tr : ∀ a b c : Int, decide (a ≤ b) = true → decide (b ≤ c) = true → decide (a ≤ c) = true := fun a b c h1 h2 => by simp only [decide_eq_true_eq] at *; omega
      have to : ∀ a b : Int, (decide (a ≤ b) || decide (b ≤ a)) = true := fun a b => by simp only [Bool.or_eq_true, decide_eq_true_eq]; omega
      have hp := List.pairwise_mergeSort tr to ss
      have hn : (ss.mergeSort (fun x y => decide (x ≤ y))).Nodup := (List.mergeSort_perm ss _).nodup_iff.2 hnd
      refine (hp.and hn).imp (fun {x y} h => ?_)
      obtain ⟨h1, h2⟩ := h
      simp only [decide_eq_true_eq] at h1
      omega
    · rw [List.mem_mergeSort]
      exact hmem k
  cases mo with
  | none =>
    refine key 0 (fun ss => ss = []) (by omega) (AnyZI.keys_gives_nil { keysA with } Fence.wide _ trivial rfl b w hbl hcl) (fun ss e => ?_)
    subst e
    exact ⟨List.nodup_nil, fun k => by rw [hinn k]; simp⟩
  | some r =>
    obtain ⟨es, clock, hm, ho⟩ := hinn
    have hheap : w.heap[r]? = some (.map es clock) := hpOf_obj.1 ho
    have hkey : ∀ x ∈ es.toList, ∃ k : Int, x.key = .int .i64 k ∧ f k = true := fun x hx => by
      have h1 := hm.keys x hx
      cases hxk : x.key <;> rw [hxk] at h1 <;> simp [MapKept.IsKey] at h1
      rename_i kd a
      subst h1
      refine ⟨a, rfl, ?_⟩
      have h2 := (hm.says a x.val).2 ⟨x, hx, hxk, rfl⟩
      unfold setM at h2
      cases hfa : f a with
      | true => rfl
      | false => rw [hfa] at h2; simp at h2
    have hsz' := hsz es clock hm
    have hmaxL : es.size ≤ maxLen := by unfold maxLen; omega
    have hrg : ∀ x ∈ es.toList, ∀ k : Int, x.key = .int .i64 k → WideElems.rd Tryd.prog 3 (fun _ => some ((.nil : DataW Unit), ([] : List MemPlace))) x = some (.int .i64 k, .nil) := fun x hx k hk => by
      obtain ⟨k', e1, e2⟩ := hkey x hx
      obtain rfl : k' = k := by rw [hk] at e1; simpa using e1.symm
      unfold WideElems.rd
      rw [hk, fitI hu3 (hw k' e2)]
      rfl
    have hown : w.ownsMap Tryd.prog 3 (fun _ => some ((.nil : DataW Unit), ([] : List MemPlace))) r es.size (.map ((es.toList.map (WideElems.rg Tryd.prog 3 (fun _ => some ((.nil : DataW Unit), ([] : List MemPlace))))).foldr DataW.insert [])) :=
      ⟨es, clock, hheap, ⟨hmaxL, hm.st, fun x hx => by obtain ⟨k, e1, _⟩ := hkey x hx; exact ⟨_, hrg x hx k e1⟩⟩, Nat.le_refl _, rfl⟩
    have hseq := AnyZI.keys_gives { keysA with } Fence.wide 1 trivial rfl (by omega) b r es.size _ w hbl hcl hown
    refine key _ _ (Nat.le_trans hown.size_le hsz') hseq (fun ss hp => ?_)
    have hint : ∀ x ∈ es.toList, ∀ k : Int, x.key = .int .i64 k → Go.intOf (WideElems.rg Tryd.prog 3 (fun _ => some ((.nil : DataW Unit), ([] : List MemPlace))) x).1 = k := fun x hx k hk => by
      rw [WideElems.rg_of (hrg x hx k hk)]; rfl
    have hik : ∀ (g : MapEntry → Lit × DataW Unit), (intKeys (.map ((es.toList.map g).foldr DataW.insert []))).Perm (es.toList.map (fun x => Go.intOf (g x).1)) := fun g => by
      have h := (WideShapes.sorted_perm (es.toList.map g)).map (fun p => Go.intOf p.1)
      rw [List.map_map] at h
      exact h
    have hp2 := hp.trans (hik _)
    clear hseq hown hrg hp
    generalize WideElems.rg Tryd.prog 3 (fun _ => some ((.nil : DataW Unit), ([] : List MemPlace))) = g at *
    refine ⟨hp2.nodup_iff.2 ?_, fun k => ?_⟩
    · refine List.pairwise_map.2 ((List.pairwise_map.1 hm.st.2.2).imp_of_mem fun {x y} hx hy hne e => hne ?_)
      obtain ⟨a, ha, _⟩ := hkey x hx
      obtain ⟨c, hc2, _⟩ := hkey y hy
      rw [hint x hx a ha, hint y hy c hc2] at e
      rw [ha, hc2, e]
    · rw [hp2.mem_iff, List.mem_map]
      constructor
      · rintro ⟨x, hx, rfl⟩
        obtain ⟨a, ha, hfa⟩ := hkey x hx
        rw [hint x hx a ha]; exact hfa
      · intro hfk
        have h1 : setM f k = some (.bool true) := by unfold setM; rw [if_pos hfk]
        obtain ⟨x, hx, hxk, _⟩ := (hm.says k _).1 h1
        exact ⟨x, hx, hint x hx k hxk⟩
end Go.Proofs.YtacgheafbkfciaaDoor
/- Contracts of functions of the given program, and plain laws on what they compute: parts of the proofs of laws. -/

namespace Go.Proofs.YtacgheafbkfciaaDoor
open Go Go.GL

/-- what is told of a volume -/
def rowS (S : Int → Int → Bool) (v : Int) : Int → Bool := if 0 ≤ v ∧ v < 4 then S v else fun _ => false
/-- numbers within bounds; and not too many -/
structure Few (S : Int → Int → Bool) (l : List Int) : Prop where
  wf : ∀ v k, S v k = true → (Lit.int .i64 k).wf = true
  mem : ∀ v k, S v k = true → k ∈ l
  len : l.length ≤ 100000
theorem length_le_of_mem : ∀ {a b : List Int}, a.Nodup → (∀ x ∈ a, x ∈ b) → a.length ≤ b.length
  | [], _, _, _ => Nat.zero_le _
  | x :: a, b, hn, hs => by
    have hx := hs x List.mem_cons_self
    have hn' := List.nodup_cons.1 hn
    have h := length_le_of_mem (a := a) (b := b.erase x) hn'.2 (fun y hy => by
      have hne : y ≠ x := fun e => hn'.1 (e ▸ hy)
      exact (List.mem_erase_of_ne hne).2 (hs y (List.mem_cons_of_mem _ hy)))
    rw [List.length_erase_of_mem hx] at h
    have : 0 < b.length := List.length_pos_of_mem hx
    simp only [List.length_cons]
    omega
theorem MapEs.few {f : Int → Bool} {es : Array MapEntry} {clock : Nat} (h : MapEs (setM f) es clock) {l : List Int} (hl : ∀ k, f k = true → k ∈ l) : es.size ≤ l.length := by
  have hk : ∀ x ∈ es.toList, ∃ k : Int, x.key = .int .i64 k ∧ f k = true := fun x hx => by
    have h1 := h.keys x hx
    cases hxk : x.key <;> rw [hxk] at h1 <;> simp [MapKept.IsKey] at h1
    rename_i kd a
    subst h1
    refine ⟨a, rfl, ?_⟩
    have h2 := (h.says a x.val).2 ⟨x, hx, hxk, rfl⟩
    unfold setM at h2
    cases hfa : f a with
    | true => rfl
    | false => rw [hfa] at h2; simp at h2
  let g : MapEntry → Int := fun x => match x.key with | .int _ a => a | _ => 0
  have hg : ∀ x ∈ es.toList, ∀ k : Int, x.key = .int .i64 k → g x = k := fun x _ k e => by show (match x.key with | .int _ a => a | _ => 0) = k; rw [e]
  have hlen : (es.toList.map g).length ≤ l.length := by
    refine length_le_of_mem ?_ (fun k hk' => ?_)
    · refine List.pairwise_map.2 ((List.pairwise_map.1 h.st.2.2).imp_of_mem fun {x y} hx hy hne e => hne ?_)
      obtain ⟨a, ha, _⟩ := hk x hx
      obtain ⟨c, hc, _⟩ := hk y hy
      rw [hg x hx a ha, hg y hy c hc] at e
      rw [ha, hc, e]
    · obtain ⟨x, hx, rfl⟩ := List.mem_map.1 hk'
      obtain ⟨a, ha, hfa⟩ := hk x hx
      rw [hg x hx a ha]
      exact hl a hfa
  simpa using hlen
theorem tab_inn {p : Nat} {S : Int → Int → Bool} {x : Refs} {A : Assn} {L : List Assn} (hu : Up A) (hA : ∀ k, A k → stars (tabL p S x) k) (m : A ∈ L) (v : Int) : Ent L (innO (rowS S v) (refAt x v)) := by
  unfold rowS refAt
  by_cases h0 : v = 0
  · subst h0; exact Ent.of hu hA m (Ent.mem (A := innO (S 0) x.2.1) (by unfold tabL; exact MM) (up_innO _ _) (fun _ a => a))
  by_cases h1 : v = 1
  · subst h1; exact Ent.of hu hA m (Ent.mem (A := innO (S 1) x.2.2.1) (by unfold tabL; exact MM) (up_innO _ _) (fun _ a => a))
  by_cases h2 : v = 2
  · subst h2; exact Ent.of hu hA m (Ent.mem (A := innO (S 2) x.2.2.2.1) (by unfold tabL; exact MM) (up_innO _ _) (fun _ a => a))
  by_cases h3 : v = 3
  · subst h3; exact Ent.of hu hA m (Ent.mem (A := innO (S 3) x.2.2.2.2) (by unfold tabL; exact MM) (up_innO _ _) (fun _ a => a))
  rw [if_neg h0, if_neg h1, if_neg h2, if_neg h3, if_neg (by omega)]
  exact fun _ _ _ => rfl
theorem tab_of {p : Nat} {S : Int → Int → Bool} {x : Refs} {A : Assn} {L : List Assn} (hu : Up A) (hA : ∀ k, A k → stars (tabL p S x) k) (m : A ∈ L) : Ent L (fun h => cellsAt p 0 [.map x.1] h ∧ outA x.1 (outM x) h) :=
  Ent.and (Ent.of hu hA m (Ent.whole (T := 39) (by unfold tabL; exact MM))) (Ent.of hu hA m (Ent.mem (A := outA x.1 (outM x)) (by unfold tabL; exact MM) (up_outA _ _) (fun _ a => a)))
def SortedPost (f : Int → Bool) (v : Value) (E : List Assn) : Prop := ∃ a cap l, SortedOf f l ∧ v = .slice a l.length cap ∧ E = [ownS a l.length cap 3 1 (l.map iV)]
set_option maxRecDepth 10000 in
theorem mof_rt (p : Nat) (S : Int → Int → Bool) (v : Int) {fl : List Int} (hF : Few S fl) : RT G 9 [.pointer (some ⟨p, 0, none⟩), .int .i64 v] (mtab p S) (SortedPost (rowS S v)) := by
  refine RT.enterEx Tryd.func9 rfl (by decide) rfl Tryd.ntmps9 rfl (fun x A hu hA => ?_)
  have hrow : ∀ k, rowS S v k = true → S v k = true := fun k h => by
    unfold rowS at h
    split at h
    · exact h
    · cases h
  repeat (first | refine GD ?_ | refine NW fun _ => ?_)
  refine WL.step rfl (OP.callRO rfl rfl (tof_ro p x v) (tab_of hu hA MM) rfl rfl ?_)
  refine WL.step rfl (OP.callRT rfl rfl (keys_rt _) (fun _ _ => trivial) rfl rfl ?_)
  rintro _ _ ⟨b, rfl, rfl⟩
  refine WL.step rfl (OP.callRT rfl rfl (sortedK_rt b (refAt x v) (rowS S v) (fun k h => hF.wf v k (hrow k h)) (fun es clock hm => Nat.le_trans (MapEs.few hm (fun k h => hF.mem v k (hrow k h))) hF.len)) (Ent.and (Ent.whole (T := 52) MM) (tab_inn hu hA MM v)) rfl rfl ?_)
  rintro _ _ ⟨a, cap, l, hl, rfl, rfl⟩
  repeat (first | refine GD ?_ | refine NW fun _ => ?_)
  exact ret1 rfl ⟨_, ⟨a, cap, l, hl, rfl, rfl⟩, II⟩
def lacksS (S : Int → Int → Bool) (mark : Int) (vols : List Int) : List Int := vols.filter (fun v => !rowS S v mark)
theorem lacksS_snoc (S : Int → Int → Bool) (mark : Int) (l : List Int) (v : Int) : lacksS S mark (l ++ [v]) = if rowS S v mark = true then lacksS S mark l else lacksS S mark l ++ [v] := by
  unfold lacksS
  rw [List.filter_append]
  cases h : rowS S v mark <;> simp [h]
def IntsPost (l : List Int) (v : Value) (E : List Assn) : Prop := ∃ a cap, v = .slice a l.length cap ∧ E = [ownS a l.length cap 3 1 (l.map iV)]
end Go.Proofs.YtacgheafbkfciaaDoor
/- Contracts of functions of the given program, and plain laws on what they compute: parts of the proofs of laws. -/

namespace Go.Proofs.YtacgheafbkfciaaDoor
open Go Go.GL

theorem RO.pre {G : Ctx} {f : FuncId} {vs : List Value} {R R' : Assn} {v : Value} (h : RO G f vs R' v) (i : ∀ k, R k → R' k) : RO G f vs R v := ⟨h.enters, fun w hr => h.calls w (i _ hr)⟩
theorem RT.pre {G : Ctx} {f : FuncId} {vs : List Value} {R R' : Assn} {p : Value → List Assn → Prop} (h : RT G f vs R' p) (i : ∀ k, R k → R' k) : RT G f vs R p := ⟨h.enters, fun M w he hs => h.calls M w (fun k s => i k (he k s)) hs⟩
theorem one_star {A : Assn} {k : Hp} (h : A k) : stars [A] k := ⟨k, Hp.empty, fun _ => .inr rfl, by funext b; simp [Hp.join, Hp.empty], h, trivial⟩
theorem star_one {A : Assn} (hu : Up A) {k : Hp} (h : stars [A] k) : A k := stars_mem List.mem_cons_self hu h
def readI (a : Option Addr) (n : Nat) (l : List Int) : Assn := readS a n 1 (l.map iV)
theorem int_get {l : List Int} {k : Nat} (h : k < l.length) : (l.map iV)[k * 1]? = some (iV l[k]) := by simp [h]
set_option maxHeartbeats 2000000 in
set_option maxRecDepth 10000 in
theorem mlacks_rt (p : Nat) (S : Int → Int → Bool) (mark : Int) (a : Option Addr) (n c : Nat) (vols : List Int) (hn : n = vols.length) (hs : n < 100000) :
    RT G 12 [.pointer (some ⟨p, 0, none⟩), .int .i64 mark, .slice a n c] (fun h => mtab p S h ∧ readI a n vols h) (IntsPost (lacksS S mark vols)) := by
  refine RT.pre (R' := exA (fun x : Refs => [fun h => stars (tabL p S x) h ∧ readI a n vols h])) ?_ (fun k ⟨⟨x, h1⟩, h2⟩ => ⟨x, one_star ⟨h1, h2⟩⟩)
  refine RT.enterEx Tryd.func12 rfl (by decide) rfl Tryd.ntmps12 rfl (fun x A hu hA0 => ?_)
  have hA1 : ∀ k, A k → stars (tabL p S x) k ∧ readI a n vols k := fun k h => star_one (up_and (up_stars _) (up_readS _ _ _ _)) (hA0 k h)
  have hA : ∀ k, A k → stars (tabL p S x) k := fun k h => (hA1 k h).1
  have hV : ∀ {L}, A ∈ L → Ent L (readS a n 1 (vols.map iV)) := fun m => Ent.mem m hu fun k h => (hA1 k h).2
  repeat (first | refine GD ?_ | refine NW fun _ => ?_)
  refine WC.imp (Imp.nilS 3 1) ?_
  refine WC.loop (σ := Nat × Option Addr × Nat) (fun s => s.1 ≤ n)
    (fun s => [(0, .val (.pointer (some ⟨p, 0, none⟩))), (1, .val (.int .i64 mark)), (7, .val (.slice s.2.1 (lacksS S mark (vols.take s.1)).length s.2.2)), (10, .val (.slice a n c)), (11, .val (.int .i64 n)), (12, .val (.int .i64 s.1))])
    (fun s => [ownS s.2.1 (lacksS S mark (vols.take s.1)).length s.2.2 3 1 ((lacksS S mark (vols.take s.1)).map iV), A]) (fun s => n - s.1) (0, none, 0) (Nat.zero_le _) ⟨rfl, rfl, rfl, rfl, rfl, rfl, trivial⟩ (Imp.refl _) ?_
  rintro ⟨k, a7, cap⟩ hk
  dsimp only at hk ⊢
  by_cases hlt : k < n
  rotate_left
  · have he : k = vols.length := by omega
    subst he
    rw [List.take_length]
    repeat (first | refine GD ?_ | refine NW fun _ => ?_)
    exact ret1 rfl ⟨_, ⟨a7, cap, rfl, rfl⟩, Imp.refl _⟩
  have hlk : k < vols.length := by omega
  have hsn : lacksS S mark (vols.take (k + 1)) = if rowS S vols[k] mark = true then lacksS S mark (vols.take k) else lacksS S mark (vols.take k) ++ [vols[k]] := by
    rw [← List.take_append_getElem hlk, lacksS_snoc]
  have hll : (lacksS S mark (vols.take k)).length ≤ k := Nat.le_trans (List.length_filter_le _ _) (by rw [List.length_take]; omega)
  refine WC.fact (Ent.some (hV MM) (by omega)) ?_
  rintro ⟨b, off, hab⟩
  have hel : ∀ {L}, A ∈ L → Ent L (cellAt b (off + k * 1) (iV vols[k])) := fun m => Ent.elem (hV m) hab (int_get hlk)
  rw [hab]
  generalize hvk : vols[k] = v at *
  generalize lacksS S mark (vols.take k) = out at *
  repeat (first | refine GD ?_ | refine NW fun _ => ?_)
  refine WL.step rfl (OP.load1 (v := .int .i64 v) rfl rfl rfl rfl (hel MM) rfl rfl ?_)
  repeat (first | refine GD ?_ | refine NW fun _ => ?_)
  refine WL.step rfl (OP.callRO rfl rfl (tof_ro p x v) (tab_of hu hA MM) rfl rfl ?_)
  have hin : ∀ {L}, A ∈ L → Ent L (innO (rowS S v) (refAt x v)) := fun m => tab_inn hu hA m v
  have hl1 : (out ++ [v]).length = out.length + 1 := by simp
  cases href : refAt x v with
  | none =>
    rw [href] at hin
    repeat (first | refine GD ?_ | refine NW fun _ => ?_)
    refine WL.fact (hin MM) (fun hz => ?_)
    refine WL.step rfl (OP.lookupNil (z := .bool false) rfl rfl rfl rfl rfl rfl rfl rfl rfl rfl rfl ?_)
    have hr := hz mark
    rw [hr, if_neg (by decide)] at hsn
    repeat (first | refine GD ?_ | refine NW fun _ => ?_)
    refine WL.step rfl (OP.append (ds := [iV v]) rfl rfl rfl rfl rfl rfl rfl rfl rfl P1 (Ent.own MM) rfl (by omega) (by omega) rfl rfl (fun a' cap' => ?_))
    repeat (first | refine GD ?_ | refine NW fun _ => ?_)
    refine ⟨(k + 1, a', cap'), by dsimp only; omega, by dsimp only; omega, ⟨rfl, rfl, by dsimp only; rw [hsn, hl1]; rfl, rfl, rfl, rfl, trivial⟩, by dsimp only; rw [hsn, hl1, List.map_append]; exact II⟩
  | some r =>
    rw [href] at hin
    repeat (first | refine GD ?_ | refine NW fun _ => ?_)
    refine WL.step rfl (OP.lookup (z := .bool false) (m := setM (rowS S v)) rfl rfl rfl rfl rfl rfl rfl rfl rfl (hin MM) rfl rfl ?_)
    rw [show ((setM (rowS S v) mark).getD (.bool false) : Value) = .bool (rowS S v mark) by unfold setM; cases rowS S v mark <;> rfl]
    cases hr : rowS S v mark with
    | true =>
      rw [hr, if_pos rfl] at hsn
      repeat (first | refine GD ?_ | refine NW fun _ => ?_)
      exact ⟨(k + 1, a7, cap), by dsimp only; omega, by dsimp only; omega, ⟨rfl, rfl, by dsimp only; rw [hsn]; rfl, rfl, rfl, rfl, trivial⟩, by dsimp only; rw [hsn]; exact II⟩
    | false =>
      rw [hr, if_neg (by decide)] at hsn
      repeat (first | refine GD ?_ | refine NW fun _ => ?_)
      refine WL.step rfl (OP.append (ds := [iV v]) rfl rfl rfl rfl rfl rfl rfl rfl rfl P1 (Ent.own MM) rfl (by omega) (by omega) rfl rfl (fun a' cap' => ?_))
      repeat (first | refine GD ?_ | refine NW fun _ => ?_)
      refine ⟨(k + 1, a', cap'), by dsimp only; omega, by dsimp only; omega, ⟨rfl, rfl, by dsimp only; rw [hsn, hl1]; rfl, rfl, rfl, rfl, trivial⟩, by dsimp only; rw [hsn, hl1, List.map_append]; exact II⟩
end Go.Proofs.YtacgheafbkfciaaDoor
/- Contracts of functions of the given program, and plain laws on what they compute: parts of the proofs of laws. -/

namespace Go.Proofs.YtacgheafbkfciaaDoor
open Go Go.GL

theorem filter_lt {α : Type} {p q : α → Bool} : ∀ {l : List α}, (∀ x ∈ l, p x = true → q x = true) → (∃ x ∈ l, q x = true ∧ p x = false) → (l.filter p).length < (l.filter q).length
  | [], _, ⟨_, hx, _⟩ => by cases hx
  | y :: l, hpq, ⟨x, hx, hq, hp⟩ => by
    have hle : (l.filter p).length ≤ (l.filter q).length := by
      clear hx
      induction l with
      | nil => exact Nat.le_refl _
      | cons z l ih =>
        have ih := ih (fun a ha => hpq a (by
          rcases List.mem_cons.1 ha with rfl | ha
          · exact List.mem_cons_self
          · exact List.mem_cons_of_mem _ (List.mem_cons_of_mem _ ha)))
        have hz := hpq z (List.mem_cons_of_mem _ List.mem_cons_self)
        cases hpz : p z with
        | true => rw [List.filter_cons_of_pos hpz, List.filter_cons_of_pos (hz hpz)]; simpa using ih
        | false =>
          rw [List.filter_cons_of_neg (by simp [hpz])]
          cases hqz : q z with
          | true => rw [List.filter_cons_of_pos hqz]; simp only [List.length_cons]; omega
          | false => rw [List.filter_cons_of_neg (by simp [hqz])]; exact ih
    rcases List.mem_cons.1 hx with rfl | hx
    · rw [List.filter_cons_of_pos hq, List.filter_cons_of_neg (by simp [hp])]
      simp only [List.length_cons]; omega
    · have ih := filter_lt (l := l) (fun a ha => hpq a (List.mem_cons_of_mem _ ha)) ⟨x, hx, hq, hp⟩
      have hy := hpq y List.mem_cons_self
      cases hpy : p y with
      | true => rw [List.filter_cons_of_pos hpy, List.filter_cons_of_pos (hy hpy)]; simpa using ih
      | false =>
        rw [List.filter_cons_of_neg (by simp [hpy])]
        cases hqy : q y with
        | true => rw [List.filter_cons_of_pos hqy]; simp only [List.length_cons]; omega
        | false => rw [List.filter_cons_of_neg (by simp [hqy])]; exact ih
/-- how many are left -/
def leftN (es : Array MapEntry) (seen : Array Nat) : Nat := (es.toList.filter (fun e => !seen.contains e.born)).length
theorem leftN_lt {es : Array MapEntry} {seen : Array Nat} {e : MapEntry} (he : e ∈ es.toList) (hs : seen.contains e.born = false) : leftN es (seen.push e.born) < leftN es seen := by
  refine filter_lt (fun x _ h => ?_) ⟨e, he, by rw [hs]; rfl, by simp⟩
  simp only [Array.contains_eq_mem, Array.mem_push, Bool.not_eq_eq_eq_not, Bool.not_true, decide_eq_false_iff_not, not_or] at h ⊢
  exact h.1
theorem seen_push {seen : Array Nat} {b c : Nat} (h : (seen.push b).contains c = true) : c = b ∨ seen.contains c = true := by
  simp only [Array.contains_eq_mem, Array.mem_push, decide_eq_true_eq] at h ⊢
  exact h.symm
/-- the newest one that all have -/
def IsNew (S : Int → Int → Bool) (vols : List Int) (n : Int) : Prop := 0 ≤ n ∧ (n = 0 ∨ (vols ≠ [] ∧ lacksS S n vols = [])) ∧ ∀ m, 0 < m → vols ≠ [] → lacksS S m vols = [] → m ≤ n
theorem lacks_head {S : Int → Int → Bool} {vols : List Int} {m v : Int} (h : lacksS S m vols = []) (hv : v ∈ vols) : rowS S v m = true := by
  unfold lacksS at h
  rw [List.filter_eq_nil_iff] at h
  have := h v hv
  simpa using this
set_option maxHeartbeats 4000000 in
set_option maxRecDepth 10000 in
theorem mnewest_rt (p : Nat) (S : Int → Int → Bool) (a : Option Addr) (n c : Nat) (vols : List Int) (hn : n = vols.length) (hs : n < 100000) :
    RT G 10 [.pointer (some ⟨p, 0, none⟩), .slice a n c] (fun h => mtab p S h ∧ readI a n vols h) (fun v E => ∃ k, IsNew S vols k ∧ v = .int .i64 k ∧ E = []) := by
  obtain ⟨v0, hv0⟩ : ∃ v0, v0 = vols.headD 0 := ⟨_, rfl⟩
  refine RT.pre (R' := exA (fun y : Refs × Array MapEntry × Nat => [fun h => (stars (tabL p S y.1) h ∧ readI a n vols h) ∧ ∀ r, refAt y.1 v0 = some r → MapEs (setM (rowS S v0)) y.2.1 y.2.2 ∧ objA r (.map y.2.1 y.2.2) h])) ?_ (fun k ⟨⟨x, h1⟩, h2⟩ => ?_)
  rotate_left
  · have hin := tab_inn (p := p) (S := S) (x := x) (L := [stars (tabL p S x)]) (up_stars _) (fun _ a => a) List.mem_cons_self v0 k (one_star h1)
    cases hr : refAt x v0 with
    | none => exact ⟨(x, #[], 0), one_star ⟨⟨h1, h2⟩, fun r e => by rw [hr] at e; cases e⟩⟩
    | some r =>
      rw [hr] at hin
      obtain ⟨es, clock, h3, h4⟩ := hin
      exact ⟨(x, es, clock), one_star ⟨⟨h1, h2⟩, fun r' e => by rw [hr] at e; cases e; exact ⟨h3, h4⟩⟩⟩
  refine RT.enterEx Tryd.func10 rfl (by decide) rfl Tryd.ntmps10 rfl (fun y A hu hA0 => ?_)
  obtain ⟨x, es, clock⟩ := y
  have hA1 : ∀ k, A k → (stars (tabL p S x) k ∧ readI a n vols k) ∧ ∀ r, refAt x v0 = some r → MapEs (setM (rowS S v0)) es clock ∧ objA r (.map es clock) k := fun k h => star_one (A := fun h => (stars (tabL p S x) h ∧ readI a n vols h) ∧ ∀ r, refAt x v0 = some r → MapEs (setM (rowS S v0)) es clock ∧ objA r (.map es clock) h) (fun h k l ⟨⟨a1, a2⟩, a3⟩ => ⟨⟨up_stars _ _ _ l a1, up_readS _ _ _ _ _ _ l a2⟩, fun r e => ⟨(a3 r e).1, up_objA _ _ _ _ l (a3 r e).2⟩⟩) (hA0 k h)
  have hA : ∀ k, A k → stars (tabL p S x) k := fun k h => (hA1 k h).1.1
  have hV : ∀ {L}, A ∈ L → Ent L (readS a n 1 (vols.map iV)) := fun m => Ent.mem m hu fun k h => (hA1 k h).1.2
  have hlk := mlacks_rt p S
  have hLE : ∀ {L}, A ∈ L → Ent L (fun h => mtab p S h ∧ readI a n vols h) := fun m => Ent.mem m hu fun k h => ⟨⟨x, hA k h⟩, (hA1 k h).1.2⟩
  clear hA0
  repeat (first | refine GD ?_ | refine NW fun _ => ?_)
  refine WC.loop (σ := Nat × Int) (fun s => s.1 ≤ n ∧ s.1 ≤ 1 ∧ (s.1 = 0 → s.2 = 0) ∧ (s.1 = 1 → IsNew S vols s.2))
    (fun s => [(0, .val (.pointer (some ⟨p, 0, none⟩))), (1, .val (.slice a n c)), (5, .val (.int .i64 s.2)), (9, .val (.slice a n c)), (10, .val (.int .i64 n)), (11, .val (.int .i64 s.1))])
    (fun _ => [A]) (fun s => 1 - s.1) (0, 0) ⟨Nat.zero_le _, Nat.zero_le _, fun _ => rfl, fun h => by cases h⟩ ⟨rfl, rfl, rfl, rfl, rfl, rfl, trivial⟩ (Imp.refl _) ?_
  rintro ⟨i, best⟩ ⟨hi1, hi2, hi3, hi4⟩
  dsimp only at hi1 hi2 hi3 hi4 ⊢
  by_cases hlt : i < n
  rotate_left
  · have hN : IsNew S vols best := by
      by_cases h1 : i = 1
      · exact hi4 h1
      · have h0 : vols = [] := List.eq_nil_of_length_eq_zero (by omega)
        rw [hi3 (by omega)]
        exact ⟨Int.le_refl _, .inl rfl, fun m _ hne => absurd h0 hne⟩
    repeat (first | refine GD ?_ | refine NW fun _ => ?_)
    exact ret1 rfl ⟨[], ⟨best, hN, rfl, rfl⟩, Imp.refl _⟩
  refine WC.fact (Ent.some (hV MM) (by omega)) ?_
  rintro ⟨b, off, hab⟩
  have hlk2 : i < vols.length := by omega
  have hel : ∀ {L}, A ∈ L → Ent L (cellAt b (off + i * 1) (iV vols[i])) := fun m => Ent.elem (hV m) hab (int_get hlk2)
  rw [hab]
  by_cases h1 : i = 1
  · subst h1
    have hN := hi4 rfl
    generalize vols[1] = vv at *
    repeat (first | refine GD ?_ | refine NW fun _ => ?_)
    refine WL.step rfl (OP.load1 (v := .int .i64 vv) rfl rfl rfl rfl (hel MM) rfl rfl ?_)
    repeat (first | refine GD ?_ | refine NW fun _ => ?_)
    exact ret1 rfl ⟨[], ⟨best, hN, rfl, rfl⟩, II⟩
  obtain rfl : i = 0 := by omega
  obtain rfl := hi3 rfl
  have hne : vols ≠ [] := fun e => by subst e; simp at hlk2
  have hvm : v0 ∈ vols := by
    cases vols with
    | nil => exact absurd rfl hne
    | cons u r => rw [hv0]; exact List.mem_cons_self
  have hve : vols[0] = v0 := by
    cases vols with
    | nil => exact absurd rfl hne
    | cons u r => rw [hv0]; rfl
  rw [hve] at hel
  repeat (first | refine GD ?_ | refine NW fun _ => ?_)
  refine WL.step rfl (OP.load1 (v := .int .i64 v0) rfl rfl rfl rfl (hel MM) rfl rfl ?_)
  repeat (first | refine GD ?_ | refine NW fun _ => ?_)
  refine WL.step rfl (OP.callRO rfl rfl (tof_ro p x v0) (tab_of hu hA MM) rfl rfl ?_)
  cases href : refAt x v0 with
  | none =>
    have hin : ∀ {L}, A ∈ L → Ent L (innO (rowS S v0) (refAt x v0)) := fun m => tab_inn hu hA m v0
    rw [href] at hin
    refine WL.fact (hin MM) (fun hz => ?_)
    have hN : IsNew S vols 0 := ⟨Int.le_refl _, .inl rfl, fun m _ _ h => by have h2 := hz m; rw [lacks_head h hvm] at h2; cases h2⟩
    refine WL.step rfl (OP.rangeNil rfl rfl rfl rfl rfl rfl (fun it => ?_))
    repeat (first | refine GD ?_ | refine NW fun _ => ?_)
    refine WC.loop (σ := Unit) (fun _ => True)
      (fun _ => [(0, .val (.pointer (some ⟨p, 0, none⟩))), (1, .val (.slice (some ⟨b, off, none⟩) n c)), (5, .val (.int .i64 0)), (9, .val (.slice (some ⟨b, off, none⟩) n c)), (10, .val (.int .i64 n)), (11, .val (.int .i64 0)), (21, .val (.pointer (some ⟨it, 0, none⟩)))])
      (fun _ => [objA it (.mapIter none 0 #[] 0), A]) (fun _ => 0) () trivial ⟨rfl, rfl, rfl, rfl, rfl, rfl, rfl, trivial⟩ (Imp.refl _) ?_
    rintro ⟨⟩ _
    repeat (first | refine GD ?_ | refine NW fun _ => ?_)
    refine WL.step rfl (OP.nextNil rfl rfl (Ent.mem (A := objA it (.mapIter none 0 #[] 0)) MM (up_objA _ _) (fun _ a => a)) rfl rfl ?_)
    repeat (first | refine GD ?_ | refine NW fun _ => ?_)
    exact ⟨(1, 0), ⟨by dsimp only; omega, Nat.le_refl _, (fun h => nomatch h), fun _ => hN⟩, Nat.lt_succ_self 0, ⟨rfl, rfl, rfl, rfl, rfl, rfl, trivial⟩, II⟩
  | some r =>
    have hO : ∀ {L}, A ∈ L → Ent L (objA r (.map es clock)) := fun m => Ent.mem m hu fun k h => ((hA1 k h).2 r href).2
    have hM : ∀ {L}, A ∈ L → Ent L (fun _ => MapEs (setM (rowS S v0)) es clock) := fun m => Ent.mem m hu fun k h => ((hA1 k h).2 r href).1
    refine WL.fact (hM MM) (fun hes => ?_)
    refine WL.step rfl (OP.rangeMap rfl rfl rfl rfl (hO MM) rfl rfl (fun it => ?_))
    repeat (first | refine GD ?_ | refine NW fun _ => ?_)
    refine WC.loop (σ := Int × Array Nat) (fun s => (0 ≤ s.1 ∧ (s.1 = 0 ∨ lacksS S s.1 vols = [])) ∧ ∀ e ∈ es.toList, s.2.contains e.born = true → ∀ k, e.key = .int .i64 k → 0 < k → lacksS S k vols = [] → k ≤ s.1)
      (fun s => [(0, .val (.pointer (some ⟨p, 0, none⟩))), (1, .val (.slice (some ⟨b, off, none⟩) n c)), (5, .val (.int .i64 s.1)), (9, .val (.slice (some ⟨b, off, none⟩) n c)), (10, .val (.int .i64 n)), (11, .val (.int .i64 0)), (21, .val (.pointer (some ⟨it, 0, none⟩)))])
      (fun s => [objA it (.mapIter (some r) clock s.2 clock), A]) (fun s => leftN es s.2) (0, #[]) ⟨⟨Int.le_refl _, .inl rfl⟩, fun e _ h => by simp at h⟩ ⟨rfl, rfl, rfl, rfl, rfl, rfl, rfl, trivial⟩ (Imp.refl _) ?_
    rintro ⟨best, seen⟩ ⟨⟨hb0, hb1⟩, hall⟩
    dsimp only at hb0 hb1 hall ⊢
    repeat (first | refine GD ?_ | refine NW fun _ => ?_)
    refine WL.step rfl (OP.nextMap (M := [A]) rfl rfl (Imp.refl _) (hO MM) (fun x hx => hes.st.1 x hx) (Nat.le_refl _) rfl rfl (fun hdone => ?_) (fun e he hse => ?_))
    · have hN : IsNew S vols best := ⟨hb0, hb1.imp id (fun h => ⟨hne, h⟩), fun m hm _ hl => by
        have h2 : setM (rowS S v0) m = some (.bool true) := by unfold setM; rw [if_pos (lacks_head hl hvm)]
        obtain ⟨e, he, hk, _⟩ := (hes.says m _).1 h2
        exact hall e he (hdone e he) m hk hm hl⟩
      repeat (first | refine GD ?_ | refine NW fun _ => ?_)
      exact ⟨(1, best), ⟨by dsimp only; omega, Nat.le_refl _, (fun h => nomatch h), fun _ => hN⟩, Nat.lt_succ_self 0, ⟨rfl, rfl, rfl, rfl, rfl, rfl, trivial⟩, II⟩
    · obtain ⟨k, hk⟩ : ∃ k : Int, e.key = .int .i64 k := by
        have h1 := hes.keys e he
        cases hxk : e.key <;> rw [hxk] at h1 <;> simp [MapKept.IsKey] at h1
        subst h1
        exact ⟨_, rfl⟩
      have hlt2 := leftN_lt he hse
      repeat (first | refine GD ?_ | refine NW fun _ => ?_)
      refine WL.step rfl (OP.entry rfl rfl (Ent.mem (A := objA it (.mapIter (some r) clock (seen.push e.born) clock)) MM (up_objA _ _) (fun _ a => a)) (hO MM) he hes.st rfl rfl ?_)
      rw [hk]
      have hkeep : ∀ best', best ≤ best' → (0 < k → lacksS S k vols = [] → k ≤ best') → ∀ e' ∈ es.toList, (seen.push e.born).contains e'.born = true → ∀ k', e'.key = .int .i64 k' → 0 < k' → lacksS S k' vols = [] → k' ≤ best' := fun best' hle hkb e' he' hs' k' hk' h0 hl => by
        rcases seen_push hs' with h | h
        · have hee : e' = e := by
            have hnd := hes.st.2.1
            obtain ⟨i, hi, rfl⟩ := List.getElem_of_mem he'
            obtain ⟨j, hj, rfl⟩ := List.getElem_of_mem he
            have hij := (List.getElem_inj (i := i) (j := j) (h₀ := by simpa using hi) (h₁ := by simpa using hj) hnd).1 (by simpa using h)
            subst hij; rfl
          subst hee
          rw [hk] at hk'
          simp only [Value.int.injEq, true_and] at hk'
          subst hk'
          exact hkb h0 hl
        · exact Int.le_trans (hall e' he' h k' hk' h0 hl) hle
      by_cases hkb : best < k
      rotate_left
      · repeat (first | refine GD ?_ | refine NW fun _ => ?_)
        exact ⟨(best, seen.push e.born), ⟨⟨hb0, hb1⟩, hkeep best (Int.le_refl _) (fun _ _ => by omega)⟩, hlt2, ⟨rfl, rfl, rfl, rfl, rfl, rfl, rfl, trivial⟩, II⟩
      repeat (first | refine GD ?_ | refine NW fun _ => ?_)
      refine WL.guardT rfl rfl rfl rfl (OP.callRT rfl rfl (hab ▸ hlk k a n c vols hn hs) (hab ▸ hLE MM) rfl rfl ?_)
      rintro _ _ ⟨a2, cap2, rfl, rfl⟩
      by_cases hz : lacksS S k vols = []
      · have hz2 : ((lacksS S k vols).length : Int) = 0 := by rw [hz]; rfl
        repeat (first | refine GD ?_ | refine NW fun _ => ?_)
        exact ⟨(k, seen.push e.born), ⟨⟨by dsimp only; omega, .inr hz⟩, hkeep k (by omega) (fun _ _ => Int.le_refl _)⟩, hlt2, ⟨rfl, rfl, rfl, rfl, rfl, rfl, rfl, trivial⟩, II⟩
      · have hz2 : ¬ ((lacksS S k vols).length : Int) = 0 := fun h => hz (List.eq_nil_of_length_eq_zero (by omega))
        repeat (first | refine GD ?_ | refine NW fun _ => ?_)
        exact ⟨(best, seen.push e.born), ⟨⟨hb0, hb1⟩, hkeep best (Int.le_refl _) (fun _ h => absurd h hz)⟩, hlt2, ⟨rfl, rfl, rfl, rfl, rfl, rfl, rfl, trivial⟩, II⟩
end Go.Proofs.YtacgheafbkfciaaDoor
