/- Contracts of functions of the given program, and plain laws: parts of the proofs of laws. -/
import Derived.Test.YtacgheafbkfciaaZMk7
import Derived.Test.YtacgheafbkfciaaZMk9
import Derived.Test.YtacgheafbkfciaaZMk5
import Derived.Test.YtacgheafbkfciaaZMk8
import Derived.Shelf.SlIterI.Nil
import Derived.Shelf.SlIterI.Sorted
import Derived.Shelf.SortM.Plain
import Derived.Shelf.SortM.SortNone
import Derived.Ground.GgzProg
import Derived.Ground.SlgmProg
import Derived.Maps.OwnSet
/- Contracts of functions of the given program, and plain laws on what they compute: parts of the proofs of laws. -/

namespace Go.Proofs.Ytacgheafbkfciaa
open Go Go.GL

/-- a fault: its error's value, and its block -/
def Fault (op : ByteArray) (at_ c : Int) (v : Value) (M : List Assn) : Prop := ∃ b, v = .iface 113 (.pointer (some ⟨b, 0, none⟩)) ∧ M = [blk b [.string op, .int .i64 at_, .iface 75 (.int .i64 c)] 115]

set_option maxRecDepth 10000 in
theorem wrap_ok (op : ByteArray) (at_ c : Int) (h : c ≠ 0) : Triple G 31 [.string op, .int .i64 at_, .iface 75 (.int .i64 c)] [] (Fault op at_ c) := by
  refine Triple.enter Try.func31 rfl (by decide) rfl Try.ntmps31 rfl (fun F => ?_)
  repeat (first | refine GO ?_ | refine NW fun _ => ?_)
  refine WC.cond rfl (fun hb => ?_) (fun _ => ?_)
  · simp [h] at hb
  repeat (first | refine GO ?_ | refine NW fun _ => ?_)
  exact ret1 rfl ⟨_, ⟨_, rfl, rfl⟩, Imp.refl _⟩

end Go.Proofs.Ytacgheafbkfciaa
/- Contracts of functions of the given program, and plain laws on what they compute: parts of the proofs of laws. -/

namespace Go.Proofs.Ytacgheafbkfciaa
open Go Go.GL

/-- an error: its faults' blocks, places and numbers, the outermost one first; the number that it comes from -/
abbrev Chain := List (Nat × ByteArray × Int)
def valOf : Chain → Int → Value
  | [], c => .iface 75 (.int .i64 c)
  | x :: _, _ => .iface 113 (.pointer (some ⟨x.1, 0, none⟩))
def chainR : Chain → Int → Assn
  | [], _ => fun _ => True
  | x :: r, c => fun h => cellsAt x.1 0 [.string x.2.1, .int .i64 x.2.2, valOf r c] h ∧ chainR r c h
theorem up_chainR : ∀ (ch : Chain) (c : Int), Up (chainR ch c)
  | [], _ => fun _ _ _ h => h
  | _ :: r, c => up_and (up_cellsAt _ _ _) (up_chainR r c)
/-- what an error is: none; or faults and a number -/
abbrev Er := Option (List (ByteArray × Int) × Int)
def IsEr (e : Er) (v : Value) (E : List Assn) : Prop := match e with
  | none => v = .nilIface ∧ E = []
  | some (l, c) => ∃ ch : Chain, ch.map Prod.snd = l ∧ v = valOf ch c ∧ E = [chainR ch c]
def wrapE (op : ByteArray) (at_ : Int) : Er → Er
  | none => none
  | some (l, c) => some ((op, at_) :: l, c)
theorem Imp.chain {ch : Chain} {c : Int} {b : Nat} {op : ByteArray} {at_ : Int} {L : List Assn} : Imp (blk b [.string op, .int .i64 at_, valOf ch c] 115 :: chainR ch c :: L) (chainR ((b, op, at_) :: ch) c :: L) := by
  rintro h ⟨h1, h2, d, e, ⟨fr, hb, hf⟩, h3, h4, d', e', hc, rest⟩
  subst e'
  have d13 : Hp.disj h1 h3 := Hp.disj_mono d (Hp.le_refl _) (Hp.le_join_left _ _)
  have d14 : Hp.disj h1 h4 := Hp.disj_mono d (Hp.le_refl _) (Hp.le_join_right d')
  refine ⟨Hp.join h1 h3, h4, Hp.disj_join d14 d', by rw [e, Hp.join_assoc], ⟨?_, up_chainR ch c _ _ (Hp.le_join_right d13) hc⟩, rest⟩
  exact up_cellsAt _ _ _ _ _ (Hp.le_join_left _ _) ⟨_, _, fr, hb, fun i v hi => by simpa using hi⟩
set_option maxRecDepth 10000 in
theorem wrapC_ok (op : ByteArray) (at_ : Int) (ch : Chain) (c : Int) (h : ¬ (ch = [] ∧ c = 0)) : Triple G 31 [.string op, .int .i64 at_, valOf ch c] [chainR ch c] (IsEr (some ((op, at_) :: ch.map Prod.snd, c))) := by
  refine Triple.enter Try.func31 rfl (by decide) rfl Try.ntmps31 rfl (fun F => ?_)
  cases ch with
  | nil =>
    have hc : ¬ c = 0 := fun e => h ⟨rfl, e⟩
    repeat (first | refine GD ?_ | refine NW fun _ => ?_)
    exact ret1 rfl ⟨_, ⟨(_, op, at_) :: [], rfl, rfl, rfl⟩, Imp.chain (ch := [])⟩
  | cons x r =>
    repeat (first | refine GD ?_ | refine NW fun _ => ?_)
    exact ret1 rfl ⟨_, ⟨(_, op, at_) :: x :: r, rfl, rfl, rfl⟩, Imp.chain (ch := x :: r)⟩
set_option maxRecDepth 10000 in
theorem wrap_nil (op : ByteArray) (at_ : Int) : RO G 31 [.string op, .int .i64 at_, .nilIface] (fun _ => True) .nilIface := by
  refine RO.enter Try.func31 rfl (by decide) rfl Try.ntmps31 rfl (fun A hu hA => ?_) (fun _ _ _ h => h)
  repeat (first | refine GD ?_ | refine NW fun _ => ?_)
  exact ret1 rfl ⟨rfl, MM⟩
theorem Imp.chain1 {c : Int} {b : Nat} {op : ByteArray} {at_ : Int} {L : List Assn} : Imp (blk b [.string op, .int .i64 at_, .iface 75 (.int .i64 c)] 115 :: L) (chainR [(b, op, at_)] c :: L) :=
  fun _ s => stars_head_mono (fun _ ⟨fr, hb, _⟩ => ⟨⟨_, _, fr, hb, fun i v hi => by
    have hi' : ([.string op, .int .i64 at_, .iface 75 (.int .i64 c)] : List Value)[i]? = some v := hi
    simpa using hi'⟩, trivial⟩) s
theorem Fault.isEr {op : ByteArray} {at_ c : Int} {v : Value} {M : List Assn} (h : Fault op at_ c v M) : ∃ M', IsEr (some ([(op, at_)], c)) v M' ∧ Imp M M' := by
  obtain ⟨b, rfl, rfl⟩ := h
  exact ⟨_, ⟨[(b, op, at_)], rfl, rfl, rfl⟩, Imp.chain1⟩
end Go.Proofs.Ytacgheafbkfciaa
/- Contracts of functions of the given program, and plain laws on what they compute: parts of the proofs of laws. -/

namespace Go.Proofs.Ytacgheafbkfciaa
open Go Go.GL

/-! a table of markers -/
def iV (n : Int) : Value := .int .i64 n
def setM (f : Int → Bool) : Int → Option Value := fun k => if f k = true then some (.bool true) else none
def refV (a : Option Nat) : Option Value := a.map (fun r => .map (some r))
/-- the maps: the outer one, and those of the four volumes -/
abbrev Refs := Option Nat × Option Nat × Option Nat × Option Nat × Option Nat
def refAt (x : Refs) (v : Int) : Option Nat := if v = 0 then x.2.1 else if v = 1 then x.2.2.1 else if v = 2 then x.2.2.2.1 else if v = 3 then x.2.2.2.2 else none
def outM (x : Refs) : Int → Option Value := fun v => refV (refAt x v)
def outA : Option Nat → (Int → Option Value) → Assn
  | none, m => fun _ => ∀ k, m k = none
  | some r, m => mapA r m
def innO (f : Int → Bool) : Option Nat → Assn
  | none => fun _ => ∀ m, f m = false
  | some r => mapA r (setM f)
theorem up_outA : ∀ (o : Option Nat) (m : Int → Option Value), Up (outA o m)
  | none, _ => fun _ _ _ h => h
  | some r, m => up_mapA r m
theorem up_innO (f : Int → Bool) : ∀ (o : Option Nat), Up (innO f o)
  | none => fun _ _ _ h => h
  | some r => up_mapA r _
def tabL (p : Nat) (S : Int → Int → Bool) (x : Refs) : List Assn :=
  [blk p [.map x.1] 28, outA x.1 (outM x), innO (S 0) x.2.1, innO (S 1) x.2.2.1, innO (S 2) x.2.2.2.1, innO (S 3) x.2.2.2.2]
def mtab (p : Nat) (S : Int → Int → Bool) : Assn := exA (tabL p S)
theorem up_mtab (p : Nat) (S : Int → Int → Bool) : Up (mtab p S) := up_exA _
set_option maxRecDepth 10000 in
theorem tof_ro (p : Nat) (x : Refs) (v : Int) : RO G 32 [.pointer (some ⟨p, 0, none⟩), .int .i64 v] (fun h => cellsAt p 0 [.map x.1] h ∧ outA x.1 (outM x) h) (.map (refAt x v)) := by
  refine RO.enter Try.func32 rfl (by decide) rfl Try.ntmps32 rfl (fun A hu hA => ?_) (up_and (up_cellsAt _ _ _) (up_outA _ _))
  have hB : ∀ {L}, A ∈ L → Ent L (cellsAt p 0 [.map x.1]) := fun m => Ent.mem m hu fun k a => (hA k a).1
  have hO : ∀ {L}, A ∈ L → Ent L (outA x.1 (outM x)) := fun m => Ent.mem m hu fun k a => (hA k a).2
  repeat (first | refine GD ?_ | refine NW fun _ => ?_)
  refine WL.step rfl (OP.load1 (v := .map x.1) rfl rfl rfl rfl (Ent.one (i := 0) (hB MM) rfl) rfl rfl ?_)
  obtain ⟨mo, r⟩ := x
  dsimp only at hO ⊢
  cases mo with
  | none =>
    refine WL.fact (hO MM) (fun hn => ?_)
    have hr : refAt (none, r) v = none := by
      have := hn v
      unfold outM refV at this
      cases hq : refAt (none, r) v with
      | none => rfl
      | some y => rw [hq] at this; cases this
    rw [hr]
    repeat (first | refine GD ?_ | refine NW fun _ => ?_)
    refine WL.step rfl (OP.lookupNil (z := .map none) rfl rfl rfl rfl rfl rfl rfl rfl rfl rfl rfl ?_)
    repeat (first | refine GD ?_ | refine NW fun _ => ?_)
    exact ret1 rfl ⟨rfl, MM⟩
  | some ro =>
    have hg : (outM (some ro, r) v).getD (.map none) = .map (refAt (some ro, r) v) := by
      unfold outM refV
      cases refAt (some ro, r) v <;> rfl
    repeat (first | refine GD ?_ | refine NW fun _ => ?_)
    refine WL.step rfl (OP.lookup (z := .map none) (m := outM (some ro, r)) rfl rfl rfl rfl rfl rfl rfl rfl rfl (hO MM) rfl rfl ?_)
    rw [hg]
    repeat (first | refine GD ?_ | refine NW fun _ => ?_)
    exact ret1 rfl ⟨rfl, MM⟩
end Go.Proofs.Ytacgheafbkfciaa
/- Contracts of functions of the given program, and plain laws on what they compute: parts of the proofs of laws. -/

namespace Go.Proofs.Ytacgheafbkfciaa
open Go Go.GL

def marksT : ByteArray := ⟨#[109, 97, 114, 107, 115]⟩
def putS (S : Int → Int → Bool) (v m : Int) : Int → Int → Bool := fun a => if a = v then (fun b => if b = m then true else S a b) else S a
theorem putS_at (S : Int → Int → Bool) (v m : Int) : putS S v m v = fun b => if b = m then true else S v b := if_pos rfl
theorem putS_ne {S : Int → Int → Bool} {v m a : Int} (h : a ≠ v) : putS S v m a = S a := if_neg h
theorem setM_put (f : Int → Bool) (k : Int) : updM (setM f) k (.bool true) = setM (fun b => if b = k then true else f b) := by
  funext x
  unfold updM setM
  by_cases h : x = k
  · simp [h]
  · simp [h]
theorem setM_none {f : Int → Bool} (h : ∀ m, f m = false) : setM f = fun _ => none := by
  funext x
  unfold setM
  rw [h x]; rfl
def refSet (x : Refs) (v : Int) (b : Nat) : Refs := (x.1, if v = 0 then some b else x.2.1, if v = 1 then some b else x.2.2.1, if v = 2 then some b else x.2.2.2.1, if v = 3 then some b else x.2.2.2.2)
theorem outM_set (x : Refs) {v : Int} (b : Nat) (h : 0 ≤ v ∧ v < 4) : updM (outM x) v (.map (some b)) = outM (refSet x v b) := by
  have hv : v = 0 ∨ v = 1 ∨ v = 2 ∨ v = 3 := by omega
  funext k
  unfold updM outM refV refAt refSet
  rcases hv with rfl | rfl | rfl | rfl <;> by_cases k0 : k = 0 <;> by_cases k1 : k = 1 <;> by_cases k2 : k = 2 <;> by_cases k3 : k = 3 <;> simp_all
theorem mtabFold (p : Nat) (S : Int → Int → Bool) (x : Refs) {f0 f1 f2 f3 : Int → Bool} {N : List Assn} (e0 : S 0 = f0) (e1 : S 1 = f1) (e2 : S 2 = f2) (e3 : S 3 = f3) :
    Imp (blk p [.map x.1] 28 :: outA x.1 (outM x) :: innO f0 x.2.1 :: innO f1 x.2.2.1 :: innO f2 x.2.2.2.1 :: innO f3 x.2.2.2.2 :: N) (mtab p S :: N) := by
  subst e0 e1 e2 e3
  exact Imp.fold (Ls := tabL p S) x
def putE (S : Int → Int → Bool) (v m : Int) : Except Int (Int → Int → Bool) := if ¬ (0 ≤ v ∧ v < 4) then .error 5 else if m < 1 then .error 1 else .ok (putS S v m)
theorem outM_get (x : Refs) (v : Int) : (outM x v).getD (.map none) = .map (refAt x v) := by
  unfold outM refV
  cases refAt x v <;> rfl
def MPut (p : Nat) (S : Int → Int → Bool) (v m : Int) (x : Value) (M : List Assn) : Prop := match putE S v m with
  | .ok S' => x = .nilIface ∧ M = [mtab p S']
  | .error c => ∃ E, IsEr (some ([(marksT, v)], c)) x E ∧ M = E ++ [mtab p S]
set_option maxHeartbeats 16000000 in
set_option maxRecDepth 10000 in
theorem mput_ok (p : Nat) (S : Int → Int → Bool) (v m : Int) :
    Triple G 11 [.pointer (some ⟨p, 0, none⟩), .int .i64 v, .int .i64 m] [mtab p S] (MPut p S v m) := by
  refine Triple.enter Try.func11 rfl (by decide) rfl Try.ntmps11 rfl (fun F => ?_)
  unfold MPut
  by_cases h0 : v < 0
  · rw [show putE S v m = .error 5 by unfold putE; rw [if_pos (by omega)]]
    repeat (first | refine GD ?_ | refine NW fun _ => ?_)
    refine WL.step rfl (OP.call (pre := []) rfl rfl (wrap_ok marksT v 5 (by decide)) PS rfl rfl ?_)
    intro x M hF
    obtain ⟨M', h1, h2⟩ := hF.isEr
    repeat (first | refine GD ?_ | refine NW fun _ => ?_)
    refine ret1 rfl ⟨M' ++ [mtab p S], ⟨M', h1, rfl⟩, ?_⟩
    rw [List.append_assoc]
    exact (Imp.app h2 _).trans (Imp.appL II _)
  by_cases h4 : 4 ≤ v
  · rw [show putE S v m = .error 5 by unfold putE; rw [if_pos (by omega)]]
    repeat (first | refine GD ?_ | refine NW fun _ => ?_)
    refine WL.step rfl (OP.call (pre := []) rfl rfl (wrap_ok marksT v 5 (by decide)) PS rfl rfl ?_)
    intro x M hF
    obtain ⟨M', h1, h2⟩ := hF.isEr
    repeat (first | refine GD ?_ | refine NW fun _ => ?_)
    refine ret1 rfl ⟨M' ++ [mtab p S], ⟨M', h1, rfl⟩, ?_⟩
    rw [List.append_assoc]
    exact (Imp.app h2 _).trans (Imp.appL II _)
  by_cases h1 : m < 1
  · rw [show putE S v m = .error 1 by unfold putE; rw [if_neg (by omega), if_pos h1]]
    repeat (first | refine GD ?_ | refine NW fun _ => ?_)
    refine WL.step rfl (OP.call (pre := []) rfl rfl (wrap_ok marksT v 1 (by decide)) PS rfl rfl ?_)
    intro x M hF
    obtain ⟨M', h1, h2⟩ := hF.isEr
    repeat (first | refine GD ?_ | refine NW fun _ => ?_)
    refine ret1 rfl ⟨M' ++ [mtab p S], ⟨M', h1, rfl⟩, ?_⟩
    rw [List.append_assoc]
    exact (Imp.app h2 _).trans (Imp.appL II _)
  rw [show putE S v m = .ok (putS S v m) by unfold putE; rw [if_neg (by omega), if_neg h1]]
  have hv4 : 0 ≤ v ∧ v < 4 := by omega
  refine WC.open (M := [F]) (Ls := tabL p S) II (fun x => ?_)
  unfold tabL
  dsimp only [List.cons_append, List.nil_append]
  obtain ⟨mo, a, b, c, d⟩ := x
  dsimp only
  have hz : ∀ {f : Int → Bool}, (∀ k, f k = false) → updM (fun _ => none) m (.bool true) = setM (fun b => if b = m then true else f b) := fun h => by rw [← setM_none h, setM_put]
  have ho : ∀ (r : Nat) (m : Int → Option Value), outA (some r) m = mapA r m := fun _ _ => rfl
  have hi : ∀ (f : Int → Bool) (r : Nat), innO f (some r) = mapA r (setM f) := fun _ _ => rfl
  have hn : ∀ {a : Option Nat}, refV a = none → a = none := fun {a} h => by cases a; rfl; cases h
  have hv : v = 0 ∨ v = 1 ∨ v = 2 ∨ v = 3 := by omega
  rcases hv with rfl | rfl | rfl | rfl
  · repeat (first | refine GD ?_ | refine NW fun _ => ?_)
    refine WL.step rfl (OP.mapNil rfl rfl rfl rfl rfl rfl ?_)
    cases mo with
    | none =>
      refine WL.fact (Ent.mem (A := outA none (outM (none, a, b, c, d))) MM (up_outA _ _) (fun _ x => x)) (fun hall => ?_)
      obtain rfl : a = none := hn (hall 0)
      obtain rfl : b = none := hn (hall 1)
      obtain rfl : c = none := hn (hall 2)
      obtain rfl : d = none := hn (hall 3)
      refine WL.fact (Ent.mem (A := innO (S 0) none) MM (up_innO _ _) (fun _ x => x)) (fun hfl => ?_)
      repeat (first | refine GD ?_ | refine NW fun _ => ?_)
      refine WL.step rfl (OP.makeMap rfl rfl rfl rfl (fun ro => ?_))
      rw [show (fun _ => none : Int → Option Value) = outM (some ro, none, none, none, none) by funext k; unfold outM refAt refV; simp]
      repeat (first | refine GD ?_ | refine NW fun _ => ?_)
      refine WL.step rfl (OP.lookup (z := .map none) (m := outM (some ro, none, none, none, none)) rfl rfl rfl rfl rfl rfl rfl rfl rfl (Ent.at (up_mapA _ _) MM) rfl rfl ?_)
      rw [outM_get, show refAt (some ro, none, none, none, none) 0 = none from rfl]
      refine WL.step rfl (OP.mapNil rfl rfl rfl rfl rfl rfl ?_)
      repeat (first | refine GD ?_ | refine NW fun _ => ?_)
      refine WL.step rfl (OP.makeMap rfl rfl rfl rfl (fun b2 => ?_))
      refine WL.step rfl (OP.mapUpdate rfl rfl rfl rfl rfl rfl rfl rfl (show Imp _ (mapA ro (outM (some ro, none, none, none, none)) :: _) from P1) rfl ?_)
      rw [outM_set _ b2 (by decide), show refSet (some ro, none, none, none, none) 0 b2 = (some ro, some b2, none, none, none) from rfl]
      repeat (first | refine GD ?_ | refine NW fun _ => ?_)
      refine WL.step rfl (OP.lookup (z := .map none) (m := outM (some ro, some b2, none, none, none)) rfl rfl rfl rfl rfl rfl rfl rfl rfl (Ent.at (up_mapA _ _) MM) rfl rfl ?_)
      rw [outM_get, show refAt (some ro, some b2, none, none, none) 0 = some b2 from rfl]
      repeat (first | refine GD ?_ | refine NW fun _ => ?_)
      refine WL.step rfl (OP.mapUpdate rfl rfl rfl rfl rfl rfl rfl rfl (show Imp _ (mapA b2 (fun _ => none) :: _) from P1) rfl ?_)
      rw [(hz hfl)]
      repeat (first | refine GD ?_ | refine NW fun _ => ?_)
      refine ret1 rfl ⟨[mtab p (putS S 0 m)], ⟨rfl, rfl⟩, ?_⟩
      exact Imp.trans II (mtabFold p (putS S 0 m) (some ro, some b2, none, none, none) (putS_at S 0 m) (putS_ne (by decide)) (putS_ne (by decide)) (putS_ne (by decide)))
    | some ro =>
      rw [ho]
      repeat (first | refine GD ?_ | refine NW fun _ => ?_)
      cases a with
      | none =>
        refine WL.fact (Ent.mem (A := innO (S 0) none) MM (up_innO _ _) (fun _ x => x)) (fun hfl => ?_)
        refine WL.step rfl (OP.lookup (z := .map none) (m := outM (some ro, none, b, c, d)) rfl rfl rfl rfl rfl rfl rfl rfl rfl (Ent.at (up_mapA _ _) MM) rfl rfl ?_)
        rw [outM_get, show refAt (some ro, none, b, c, d) 0 = none from rfl]
        refine WL.step rfl (OP.mapNil rfl rfl rfl rfl rfl rfl ?_)
        repeat (first | refine GD ?_ | refine NW fun _ => ?_)
        refine WL.step rfl (OP.makeMap rfl rfl rfl rfl (fun b2 => ?_))
        refine WL.step rfl (OP.mapUpdate rfl rfl rfl rfl rfl rfl rfl rfl (show Imp _ (mapA ro (outM (some ro, none, b, c, d)) :: _) from P1) rfl ?_)
        rw [outM_set _ b2 (by decide), show refSet (some ro, none, b, c, d) 0 b2 = (some ro, some b2, b, c, d) from rfl]
        repeat (first | refine GD ?_ | refine NW fun _ => ?_)
        refine WL.step rfl (OP.lookup (z := .map none) (m := outM (some ro, some b2, b, c, d)) rfl rfl rfl rfl rfl rfl rfl rfl rfl (Ent.at (up_mapA _ _) MM) rfl rfl ?_)
        rw [outM_get, show refAt (some ro, some b2, b, c, d) 0 = some b2 from rfl]
        repeat (first | refine GD ?_ | refine NW fun _ => ?_)
        refine WL.step rfl (OP.mapUpdate rfl rfl rfl rfl rfl rfl rfl rfl (show Imp _ (mapA b2 (fun _ => none) :: _) from P1) rfl ?_)
        rw [(hz hfl)]
        repeat (first | refine GD ?_ | refine NW fun _ => ?_)
        refine ret1 rfl ⟨[mtab p (putS S 0 m)], ⟨rfl, rfl⟩, ?_⟩
        exact Imp.trans II (mtabFold p (putS S 0 m) (some ro, some b2, b, c, d) (putS_at S 0 m) (putS_ne (by decide)) (putS_ne (by decide)) (putS_ne (by decide)))
      | some r2 =>
        rw [hi]
        refine WL.step rfl (OP.lookup (z := .map none) (m := outM (some ro, some r2, b, c, d)) rfl rfl rfl rfl rfl rfl rfl rfl rfl (Ent.at (up_mapA _ _) MM) rfl rfl ?_)
        rw [outM_get, show refAt (some ro, some r2, b, c, d) 0 = some r2 from rfl]
        refine WL.step rfl (OP.mapNil rfl rfl rfl rfl rfl rfl ?_)
        repeat (first | refine GD ?_ | refine NW fun _ => ?_)
        refine WL.step rfl (OP.lookup (z := .map none) (m := outM (some ro, some r2, b, c, d)) rfl rfl rfl rfl rfl rfl rfl rfl rfl (Ent.at (up_mapA _ _) MM) rfl rfl ?_)
        rw [outM_get, show refAt (some ro, some r2, b, c, d) 0 = some r2 from rfl]
        repeat (first | refine GD ?_ | refine NW fun _ => ?_)
        refine WL.step rfl (OP.mapUpdate rfl rfl rfl rfl rfl rfl rfl rfl (show Imp _ (mapA r2 (setM (S 0)) :: _) from P1) rfl ?_)
        rw [setM_put]
        repeat (first | refine GD ?_ | refine NW fun _ => ?_)
        refine ret1 rfl ⟨[mtab p (putS S 0 m)], ⟨rfl, rfl⟩, ?_⟩
        exact Imp.trans II (mtabFold p (putS S 0 m) (some ro, some r2, b, c, d) (putS_at S 0 m) (putS_ne (by decide)) (putS_ne (by decide)) (putS_ne (by decide)))
  · repeat (first | refine GD ?_ | refine NW fun _ => ?_)
    refine WL.step rfl (OP.mapNil rfl rfl rfl rfl rfl rfl ?_)
    cases mo with
    | none =>
      refine WL.fact (Ent.mem (A := outA none (outM (none, a, b, c, d))) MM (up_outA _ _) (fun _ x => x)) (fun hall => ?_)
      obtain rfl : a = none := hn (hall 0)
      obtain rfl : b = none := hn (hall 1)
      obtain rfl : c = none := hn (hall 2)
      obtain rfl : d = none := hn (hall 3)
      refine WL.fact (Ent.mem (A := innO (S 1) none) MM (up_innO _ _) (fun _ x => x)) (fun hfl => ?_)
      repeat (first | refine GD ?_ | refine NW fun _ => ?_)
      refine WL.step rfl (OP.makeMap rfl rfl rfl rfl (fun ro => ?_))
      rw [show (fun _ => none : Int → Option Value) = outM (some ro, none, none, none, none) by funext k; unfold outM refAt refV; simp]
      repeat (first | refine GD ?_ | refine NW fun _ => ?_)
      refine WL.step rfl (OP.lookup (z := .map none) (m := outM (some ro, none, none, none, none)) rfl rfl rfl rfl rfl rfl rfl rfl rfl (Ent.at (up_mapA _ _) MM) rfl rfl ?_)
      rw [outM_get, show refAt (some ro, none, none, none, none) 1 = none from rfl]
      refine WL.step rfl (OP.mapNil rfl rfl rfl rfl rfl rfl ?_)
      repeat (first | refine GD ?_ | refine NW fun _ => ?_)
      refine WL.step rfl (OP.makeMap rfl rfl rfl rfl (fun b2 => ?_))
      refine WL.step rfl (OP.mapUpdate rfl rfl rfl rfl rfl rfl rfl rfl (show Imp _ (mapA ro (outM (some ro, none, none, none, none)) :: _) from P1) rfl ?_)
      rw [outM_set _ b2 (by decide), show refSet (some ro, none, none, none, none) 1 b2 = (some ro, none, some b2, none, none) from rfl]
      repeat (first | refine GD ?_ | refine NW fun _ => ?_)
      refine WL.step rfl (OP.lookup (z := .map none) (m := outM (some ro, none, some b2, none, none)) rfl rfl rfl rfl rfl rfl rfl rfl rfl (Ent.at (up_mapA _ _) MM) rfl rfl ?_)
      rw [outM_get, show refAt (some ro, none, some b2, none, none) 1 = some b2 from rfl]
      repeat (first | refine GD ?_ | refine NW fun _ => ?_)
      refine WL.step rfl (OP.mapUpdate rfl rfl rfl rfl rfl rfl rfl rfl (show Imp _ (mapA b2 (fun _ => none) :: _) from P1) rfl ?_)
      rw [(hz hfl)]
      repeat (first | refine GD ?_ | refine NW fun _ => ?_)
      refine ret1 rfl ⟨[mtab p (putS S 1 m)], ⟨rfl, rfl⟩, ?_⟩
      exact Imp.trans II (mtabFold p (putS S 1 m) (some ro, none, some b2, none, none) (putS_ne (by decide)) (putS_at S 1 m) (putS_ne (by decide)) (putS_ne (by decide)))
    | some ro =>
      rw [ho]
      repeat (first | refine GD ?_ | refine NW fun _ => ?_)
      cases b with
      | none =>
        refine WL.fact (Ent.mem (A := innO (S 1) none) MM (up_innO _ _) (fun _ x => x)) (fun hfl => ?_)
        refine WL.step rfl (OP.lookup (z := .map none) (m := outM (some ro, a, none, c, d)) rfl rfl rfl rfl rfl rfl rfl rfl rfl (Ent.at (up_mapA _ _) MM) rfl rfl ?_)
        rw [outM_get, show refAt (some ro, a, none, c, d) 1 = none from rfl]
        refine WL.step rfl (OP.mapNil rfl rfl rfl rfl rfl rfl ?_)
        repeat (first | refine GD ?_ | refine NW fun _ => ?_)
        refine WL.step rfl (OP.makeMap rfl rfl rfl rfl (fun b2 => ?_))
        refine WL.step rfl (OP.mapUpdate rfl rfl rfl rfl rfl rfl rfl rfl (show Imp _ (mapA ro (outM (some ro, a, none, c, d)) :: _) from P1) rfl ?_)
        rw [outM_set _ b2 (by decide), show refSet (some ro, a, none, c, d) 1 b2 = (some ro, a, some b2, c, d) from rfl]
        repeat (first | refine GD ?_ | refine NW fun _ => ?_)
        refine WL.step rfl (OP.lookup (z := .map none) (m := outM (some ro, a, some b2, c, d)) rfl rfl rfl rfl rfl rfl rfl rfl rfl (Ent.at (up_mapA _ _) MM) rfl rfl ?_)
        rw [outM_get, show refAt (some ro, a, some b2, c, d) 1 = some b2 from rfl]
        repeat (first | refine GD ?_ | refine NW fun _ => ?_)
        refine WL.step rfl (OP.mapUpdate rfl rfl rfl rfl rfl rfl rfl rfl (show Imp _ (mapA b2 (fun _ => none) :: _) from P1) rfl ?_)
        rw [(hz hfl)]
        repeat (first | refine GD ?_ | refine NW fun _ => ?_)
        refine ret1 rfl ⟨[mtab p (putS S 1 m)], ⟨rfl, rfl⟩, ?_⟩
        exact Imp.trans II (mtabFold p (putS S 1 m) (some ro, a, some b2, c, d) (putS_ne (by decide)) (putS_at S 1 m) (putS_ne (by decide)) (putS_ne (by decide)))
      | some r2 =>
        rw [hi]
        refine WL.step rfl (OP.lookup (z := .map none) (m := outM (some ro, a, some r2, c, d)) rfl rfl rfl rfl rfl rfl rfl rfl rfl (Ent.at (up_mapA _ _) MM) rfl rfl ?_)
        rw [outM_get, show refAt (some ro, a, some r2, c, d) 1 = some r2 from rfl]
        refine WL.step rfl (OP.mapNil rfl rfl rfl rfl rfl rfl ?_)
        repeat (first | refine GD ?_ | refine NW fun _ => ?_)
        refine WL.step rfl (OP.lookup (z := .map none) (m := outM (some ro, a, some r2, c, d)) rfl rfl rfl rfl rfl rfl rfl rfl rfl (Ent.at (up_mapA _ _) MM) rfl rfl ?_)
        rw [outM_get, show refAt (some ro, a, some r2, c, d) 1 = some r2 from rfl]
        repeat (first | refine GD ?_ | refine NW fun _ => ?_)
        refine WL.step rfl (OP.mapUpdate rfl rfl rfl rfl rfl rfl rfl rfl (show Imp _ (mapA r2 (setM (S 1)) :: _) from P1) rfl ?_)
        rw [setM_put]
        repeat (first | refine GD ?_ | refine NW fun _ => ?_)
        refine ret1 rfl ⟨[mtab p (putS S 1 m)], ⟨rfl, rfl⟩, ?_⟩
        exact Imp.trans II (mtabFold p (putS S 1 m) (some ro, a, some r2, c, d) (putS_ne (by decide)) (putS_at S 1 m) (putS_ne (by decide)) (putS_ne (by decide)))
  · repeat (first | refine GD ?_ | refine NW fun _ => ?_)
    refine WL.step rfl (OP.mapNil rfl rfl rfl rfl rfl rfl ?_)
    cases mo with
    | none =>
      refine WL.fact (Ent.mem (A := outA none (outM (none, a, b, c, d))) MM (up_outA _ _) (fun _ x => x)) (fun hall => ?_)
      obtain rfl : a = none := hn (hall 0)
      obtain rfl : b = none := hn (hall 1)
      obtain rfl : c = none := hn (hall 2)
      obtain rfl : d = none := hn (hall 3)
      refine WL.fact (Ent.mem (A := innO (S 2) none) MM (up_innO _ _) (fun _ x => x)) (fun hfl => ?_)
      repeat (first | refine GD ?_ | refine NW fun _ => ?_)
      refine WL.step rfl (OP.makeMap rfl rfl rfl rfl (fun ro => ?_))
      rw [show (fun _ => none : Int → Option Value) = outM (some ro, none, none, none, none) by funext k; unfold outM refAt refV; simp]
      repeat (first | refine GD ?_ | refine NW fun _ => ?_)
      refine WL.step rfl (OP.lookup (z := .map none) (m := outM (some ro, none, none, none, none)) rfl rfl rfl rfl rfl rfl rfl rfl rfl (Ent.at (up_mapA _ _) MM) rfl rfl ?_)
      rw [outM_get, show refAt (some ro, none, none, none, none) 2 = none from rfl]
      refine WL.step rfl (OP.mapNil rfl rfl rfl rfl rfl rfl ?_)
      repeat (first | refine GD ?_ | refine NW fun _ => ?_)
      refine WL.step rfl (OP.makeMap rfl rfl rfl rfl (fun b2 => ?_))
      refine WL.step rfl (OP.mapUpdate rfl rfl rfl rfl rfl rfl rfl rfl (show Imp _ (mapA ro (outM (some ro, none, none, none, none)) :: _) from P1) rfl ?_)
      rw [outM_set _ b2 (by decide), show refSet (some ro, none, none, none, none) 2 b2 = (some ro, none, none, some b2, none) from rfl]
      repeat (first | refine GD ?_ | refine NW fun _ => ?_)
      refine WL.step rfl (OP.lookup (z := .map none) (m := outM (some ro, none, none, some b2, none)) rfl rfl rfl rfl rfl rfl rfl rfl rfl (Ent.at (up_mapA _ _) MM) rfl rfl ?_)
      rw [outM_get, show refAt (some ro, none, none, some b2, none) 2 = some b2 from rfl]
      repeat (first | refine GD ?_ | refine NW fun _ => ?_)
      refine WL.step rfl (OP.mapUpdate rfl rfl rfl rfl rfl rfl rfl rfl (show Imp _ (mapA b2 (fun _ => none) :: _) from P1) rfl ?_)
      rw [(hz hfl)]
      repeat (first | refine GD ?_ | refine NW fun _ => ?_)
      refine ret1 rfl ⟨[mtab p (putS S 2 m)], ⟨rfl, rfl⟩, ?_⟩
      exact Imp.trans II (mtabFold p (putS S 2 m) (some ro, none, none, some b2, none) (putS_ne (by decide)) (putS_ne (by decide)) (putS_at S 2 m) (putS_ne (by decide)))
    | some ro =>
      rw [ho]
      repeat (first | refine GD ?_ | refine NW fun _ => ?_)
      cases c with
      | none =>
        refine WL.fact (Ent.mem (A := innO (S 2) none) MM (up_innO _ _) (fun _ x => x)) (fun hfl => ?_)
        refine WL.step rfl (OP.lookup (z := .map none) (m := outM (some ro, a, b, none, d)) rfl rfl rfl rfl rfl rfl rfl rfl rfl (Ent.at (up_mapA _ _) MM) rfl rfl ?_)
        rw [outM_get, show refAt (some ro, a, b, none, d) 2 = none from rfl]
        refine WL.step rfl (OP.mapNil rfl rfl rfl rfl rfl rfl ?_)
        repeat (first | refine GD ?_ | refine NW fun _ => ?_)
        refine WL.step rfl (OP.makeMap rfl rfl rfl rfl (fun b2 => ?_))
        refine WL.step rfl (OP.mapUpdate rfl rfl rfl rfl rfl rfl rfl rfl (show Imp _ (mapA ro (outM (some ro, a, b, none, d)) :: _) from P1) rfl ?_)
        rw [outM_set _ b2 (by decide), show refSet (some ro, a, b, none, d) 2 b2 = (some ro, a, b, some b2, d) from rfl]
        repeat (first | refine GD ?_ | refine NW fun _ => ?_)
        refine WL.step rfl (OP.lookup (z := .map none) (m := outM (some ro, a, b, some b2, d)) rfl rfl rfl rfl rfl rfl rfl rfl rfl (Ent.at (up_mapA _ _) MM) rfl rfl ?_)
        rw [outM_get, show refAt (some ro, a, b, some b2, d) 2 = some b2 from rfl]
        repeat (first | refine GD ?_ | refine NW fun _ => ?_)
        refine WL.step rfl (OP.mapUpdate rfl rfl rfl rfl rfl rfl rfl rfl (show Imp _ (mapA b2 (fun _ => none) :: _) from P1) rfl ?_)
        rw [(hz hfl)]
        repeat (first | refine GD ?_ | refine NW fun _ => ?_)
        refine ret1 rfl ⟨[mtab p (putS S 2 m)], ⟨rfl, rfl⟩, ?_⟩
        exact Imp.trans II (mtabFold p (putS S 2 m) (some ro, a, b, some b2, d) (putS_ne (by decide)) (putS_ne (by decide)) (putS_at S 2 m) (putS_ne (by decide)))
      | some r2 =>
        rw [hi]
        refine WL.step rfl (OP.lookup (z := .map none) (m := outM (some ro, a, b, some r2, d)) rfl rfl rfl rfl rfl rfl rfl rfl rfl (Ent.at (up_mapA _ _) MM) rfl rfl ?_)
        rw [outM_get, show refAt (some ro, a, b, some r2, d) 2 = some r2 from rfl]
        refine WL.step rfl (OP.mapNil rfl rfl rfl rfl rfl rfl ?_)
        repeat (first | refine GD ?_ | refine NW fun _ => ?_)
        refine WL.step rfl (OP.lookup (z := .map none) (m := outM (some ro, a, b, some r2, d)) rfl rfl rfl rfl rfl rfl rfl rfl rfl (Ent.at (up_mapA _ _) MM) rfl rfl ?_)
        rw [outM_get, show refAt (some ro, a, b, some r2, d) 2 = some r2 from rfl]
        repeat (first | refine GD ?_ | refine NW fun _ => ?_)
        refine WL.step rfl (OP.mapUpdate rfl rfl rfl rfl rfl rfl rfl rfl (show Imp _ (mapA r2 (setM (S 2)) :: _) from P1) rfl ?_)
        rw [setM_put]
        repeat (first | refine GD ?_ | refine NW fun _ => ?_)
        refine ret1 rfl ⟨[mtab p (putS S 2 m)], ⟨rfl, rfl⟩, ?_⟩
        exact Imp.trans II (mtabFold p (putS S 2 m) (some ro, a, b, some r2, d) (putS_ne (by decide)) (putS_ne (by decide)) (putS_at S 2 m) (putS_ne (by decide)))
  · repeat (first | refine GD ?_ | refine NW fun _ => ?_)
    refine WL.step rfl (OP.mapNil rfl rfl rfl rfl rfl rfl ?_)
    cases mo with
    | none =>
      refine WL.fact (Ent.mem (A := outA none (outM (none, a, b, c, d))) MM (up_outA _ _) (fun _ x => x)) (fun hall => ?_)
      obtain rfl : a = none := hn (hall 0)
      obtain rfl : b = none := hn (hall 1)
      obtain rfl : c = none := hn (hall 2)
      obtain rfl : d = none := hn (hall 3)
      refine WL.fact (Ent.mem (A := innO (S 3) none) MM (up_innO _ _) (fun _ x => x)) (fun hfl => ?_)
      repeat (first | refine GD ?_ | refine NW fun _ => ?_)
      refine WL.step rfl (OP.makeMap rfl rfl rfl rfl (fun ro => ?_))
      rw [show (fun _ => none : Int → Option Value) = outM (some ro, none, none, none, none) by funext k; unfold outM refAt refV; simp]
      repeat (first | refine GD ?_ | refine NW fun _ => ?_)
      refine WL.step rfl (OP.lookup (z := .map none) (m := outM (some ro, none, none, none, none)) rfl rfl rfl rfl rfl rfl rfl rfl rfl (Ent.at (up_mapA _ _) MM) rfl rfl ?_)
      rw [outM_get, show refAt (some ro, none, none, none, none) 3 = none from rfl]
      refine WL.step rfl (OP.mapNil rfl rfl rfl rfl rfl rfl ?_)
      repeat (first | refine GD ?_ | refine NW fun _ => ?_)
      refine WL.step rfl (OP.makeMap rfl rfl rfl rfl (fun b2 => ?_))
      refine WL.step rfl (OP.mapUpdate rfl rfl rfl rfl rfl rfl rfl rfl (show Imp _ (mapA ro (outM (some ro, none, none, none, none)) :: _) from P1) rfl ?_)
      rw [outM_set _ b2 (by decide), show refSet (some ro, none, none, none, none) 3 b2 = (some ro, none, none, none, some b2) from rfl]
      repeat (first | refine GD ?_ | refine NW fun _ => ?_)
      refine WL.step rfl (OP.lookup (z := .map none) (m := outM (some ro, none, none, none, some b2)) rfl rfl rfl rfl rfl rfl rfl rfl rfl (Ent.at (up_mapA _ _) MM) rfl rfl ?_)
      rw [outM_get, show refAt (some ro, none, none, none, some b2) 3 = some b2 from rfl]
      repeat (first | refine GD ?_ | refine NW fun _ => ?_)
      refine WL.step rfl (OP.mapUpdate rfl rfl rfl rfl rfl rfl rfl rfl (show Imp _ (mapA b2 (fun _ => none) :: _) from P1) rfl ?_)
      rw [(hz hfl)]
      repeat (first | refine GD ?_ | refine NW fun _ => ?_)
      refine ret1 rfl ⟨[mtab p (putS S 3 m)], ⟨rfl, rfl⟩, ?_⟩
      exact Imp.trans II (mtabFold p (putS S 3 m) (some ro, none, none, none, some b2) (putS_ne (by decide)) (putS_ne (by decide)) (putS_ne (by decide)) (putS_at S 3 m))
    | some ro =>
      rw [ho]
      repeat (first | refine GD ?_ | refine NW fun _ => ?_)
      cases d with
      | none =>
        refine WL.fact (Ent.mem (A := innO (S 3) none) MM (up_innO _ _) (fun _ x => x)) (fun hfl => ?_)
        refine WL.step rfl (OP.lookup (z := .map none) (m := outM (some ro, a, b, c, none)) rfl rfl rfl rfl rfl rfl rfl rfl rfl (Ent.at (up_mapA _ _) MM) rfl rfl ?_)
        rw [outM_get, show refAt (some ro, a, b, c, none) 3 = none from rfl]
        refine WL.step rfl (OP.mapNil rfl rfl rfl rfl rfl rfl ?_)
        repeat (first | refine GD ?_ | refine NW fun _ => ?_)
        refine WL.step rfl (OP.makeMap rfl rfl rfl rfl (fun b2 => ?_))
        refine WL.step rfl (OP.mapUpdate rfl rfl rfl rfl rfl rfl rfl rfl (show Imp _ (mapA ro (outM (some ro, a, b, c, none)) :: _) from P1) rfl ?_)
        rw [outM_set _ b2 (by decide), show refSet (some ro, a, b, c, none) 3 b2 = (some ro, a, b, c, some b2) from rfl]
        repeat (first | refine GD ?_ | refine NW fun _ => ?_)
        refine WL.step rfl (OP.lookup (z := .map none) (m := outM (some ro, a, b, c, some b2)) rfl rfl rfl rfl rfl rfl rfl rfl rfl (Ent.at (up_mapA _ _) MM) rfl rfl ?_)
        rw [outM_get, show refAt (some ro, a, b, c, some b2) 3 = some b2 from rfl]
        repeat (first | refine GD ?_ | refine NW fun _ => ?_)
        refine WL.step rfl (OP.mapUpdate rfl rfl rfl rfl rfl rfl rfl rfl (show Imp _ (mapA b2 (fun _ => none) :: _) from P1) rfl ?_)
        rw [(hz hfl)]
        repeat (first | refine GD ?_ | refine NW fun _ => ?_)
        refine ret1 rfl ⟨[mtab p (putS S 3 m)], ⟨rfl, rfl⟩, ?_⟩
        exact Imp.trans II (mtabFold p (putS S 3 m) (some ro, a, b, c, some b2) (putS_ne (by decide)) (putS_ne (by decide)) (putS_ne (by decide)) (putS_at S 3 m))
      | some r2 =>
        rw [hi]
        refine WL.step rfl (OP.lookup (z := .map none) (m := outM (some ro, a, b, c, some r2)) rfl rfl rfl rfl rfl rfl rfl rfl rfl (Ent.at (up_mapA _ _) MM) rfl rfl ?_)
        rw [outM_get, show refAt (some ro, a, b, c, some r2) 3 = some r2 from rfl]
        refine WL.step rfl (OP.mapNil rfl rfl rfl rfl rfl rfl ?_)
        repeat (first | refine GD ?_ | refine NW fun _ => ?_)
        refine WL.step rfl (OP.lookup (z := .map none) (m := outM (some ro, a, b, c, some r2)) rfl rfl rfl rfl rfl rfl rfl rfl rfl (Ent.at (up_mapA _ _) MM) rfl rfl ?_)
        rw [outM_get, show refAt (some ro, a, b, c, some r2) 3 = some r2 from rfl]
        repeat (first | refine GD ?_ | refine NW fun _ => ?_)
        refine WL.step rfl (OP.mapUpdate rfl rfl rfl rfl rfl rfl rfl rfl (show Imp _ (mapA r2 (setM (S 3)) :: _) from P1) rfl ?_)
        rw [setM_put]
        repeat (first | refine GD ?_ | refine NW fun _ => ?_)
        refine ret1 rfl ⟨[mtab p (putS S 3 m)], ⟨rfl, rfl⟩, ?_⟩
        exact Imp.trans II (mtabFold p (putS S 3 m) (some ro, a, b, c, some r2) (putS_ne (by decide)) (putS_ne (by decide)) (putS_ne (by decide)) (putS_at S 3 m))
end Go.Proofs.Ytacgheafbkfciaa
/- Contracts of functions of the given program, and plain laws on what they compute: parts of the proofs of laws. -/

namespace Go.Proofs
open Go Go.GL Go.RowKit Go.Maps Go.Sort Go.Shelf

shelf_lay_g SlLaysZI.n7 Ggz 7 at Try 34 as Ytacgheafbkfciaa.keysA
shelf_lay_g SlLaysZI.n6 Ggz 6 at Try 33 as Ytacgheafbkfciaa.sortedA
shelf_lay_g SlLaysM.n5 Slgm 5 at Try 52 as Ytacgheafbkfciaa.sortA
end Go.Proofs
namespace Go.Proofs.Ytacgheafbkfciaa
open Go Go.GL Go.RowKit Go.Maps Go.Sort Go.Shelf Go.Proofs
theorem keys_rt (mo : Option Nat) : RT G 34 [.map mo] (fun _ => True) (fun v E => ∃ b, v = .func (.func 53) #[] #[.pointer (some ⟨b, 0, none⟩)] ∧ E = [blk b [.map mo] 76]) := by
  refine ⟨⟨_, _, Try.func34, by decide, rfl⟩, fun M w _ hs => ?_⟩
  have h := (callsIn_wide (n := 5)).1 (AnyZI.keys_in keysA Fence.wide 5 trivial rfl mo w)
  refine Calls.mono h ?_
  rintro e w' ⟨rfl, rfl⟩
  exact ⟨_, _, rfl, ⟨w.heap.size, rfl, rfl⟩, hs.new [.map mo] _⟩
/-- the sorted list of what is told -/
def SortedOf (f : Int → Bool) (l : List Int) : Prop := l.Pairwise (· < ·) ∧ ∀ k, k ∈ l ↔ f k = true
theorem sorts_any (m : Nat) : AnyZI.SortsIn Try.prog sortedA_ren Fence.wide m :=
  ⟨fun blk off cap ss W hH hblk hsz => callsIn_wide.2 (AnyM.slices_Sort_int sortA blk off cap ss W hH hblk hsz),
   fun p cap W => callsIn_wide.2 (AnyM.slices_Sort_int_none sortA p cap W)⟩
theorem fitI {P : Program} {k : TypeId} (hk : P.underlying k = some (.int .i64)) {a : Int} (hw : (Lit.int .i64 a).wf = true) : keyOf P k (.int .i64 a) = some (.int .i64 a) := by
  simp [keyOf, hk, mapKey, hw]
set_option maxHeartbeats 1000000 in
theorem sortedK_rt (b : Nat) (mo : Option Nat) (f : Int → Bool) (hw : ∀ k, f k = true → (Lit.int .i64 k).wf = true) (hsz : ∀ es clock, MapEs (setM f) es clock → es.size ≤ 100000) :
    RT G 33 [.func (.func 53) #[] #[.pointer (some ⟨b, 0, none⟩)]] (fun h => cellsAt b 0 [.map mo] h ∧ innO f mo h) (fun v E => ∃ a cap l, SortedOf f l ∧ v = .slice a l.length cap ∧ E = [ownS a l.length cap 3 1 (l.map iV)]) := by
  refine ⟨⟨_, _, Try.func33, by decide, rfl⟩, fun M w he hs => ?_⟩
  obtain ⟨hcell, hinn⟩ := he _ hs
  obtain ⟨c, T, fr, hb, hc⟩ := hcell
  have hcl : w.cell? ⟨b, 0, none⟩ = some (.map mo) := by
    have h1 := hpOf_obj.1 hb
    have h2 := hc 0 (.map mo) rfl
    simp [World.cell?, h1]
    simpa using h2
  have hbl : b < w.heap.size := (Array.getElem?_eq_some_iff.1 (hpOf_obj.1 hb)).1
  have hu3 : Try.prog.underlying 3 = some (.int .i64) := Try.underlying3
  have key : ∀ (N : Nat) (S : List Int → Prop), N ≤ 100000 → SeqGives Fence.wide 1 Try.prog 53 #[.pointer (some ⟨b, 0, none⟩)] encZ S N w → (∀ ss, S ss → ss.Nodup ∧ ∀ k, k ∈ ss ↔ f k = true) →
      Calls Try.prog 33 #[.func (.func 53) #[] #[.pointer (some ⟨b, 0, none⟩)]] w (fun e w' => ∃ v E, e = .returned v ∧ (∃ a cap l, SortedOf f l ∧ v = .slice a l.length cap ∧ E = [ownS a l.length cap 3 1 (l.map iV)]) ∧ Sat (E ++ M) w') := by
    intro N S hN hseq hS
    have cS := AnyZI.sorted_in sortedA Fence.wide 4 trivial trivial trivial trivial rfl (by omega) (sorts_any _) (enters_of Try.func52 (by kernel_rfl) rfl) 53 #[.pointer (some ⟨b, 0, none⟩)] trivial (enters_of Try.func53 (by kernel_rfl) rfl) S N (by unfold maxLen; omega) (by omega) w hseq
    refine Calls.mono ((callsIn_wide (n := 4)).1 cS) ?_
    rintro e w' ⟨v, ss, rfl, hs1, hrow, _, hbelow⟩
    obtain ⟨hnd, hmem⟩ := hS ss hs1
    have hlen : (ss.mergeSort (fun x y => decide (x ≤ y))).length = ss.length := List.length_mergeSort ss
    rw [← hlen] at hrow
    obtain ⟨a, cap, rfl, hsat⟩ := hs.ofRow hbelow hrow
    refine ⟨_, _, rfl, ⟨a, cap, ss.mergeSort (fun x y => decide (x ≤ y)), ⟨?_, fun k => ?_⟩, rfl, rfl⟩, hsat⟩
    · have tr : ∀ a b c : Int, decide (a ≤ b) = true → decide (b ≤ c) = true → decide (a ≤ c) = true := fun a b c h1 h2 => by simp only [decide_eq_true_eq] at *; omega
      have to : ∀ a b : Int, (decide (a ≤ b) || decide (b ≤ a)) = true := fun a b => by simp only [Bool.or_eq_true, decide_eq_true_eq]; omega
      have hp := List.pairwise_mergeSort tr to ss
      have hn : (ss.mergeSort (fun x y => decide (x ≤ y))).Nodup := (List.mergeSort_perm ss _).nodup_iff.2 hnd
      refine (hp.and hn).imp (fun {x y} h => ?_)
      obtain ⟨h1, h2⟩ := h
      simp only [decide_eq_true_eq] at h1
      omega
    · rw [List.mem_mergeSort]
      exact hmem k
  cases mo with
  | none =>
    refine key 0 (fun ss => ss = []) (by omega) (AnyZI.keys_gives_nil { keysA with } Fence.wide _ trivial rfl b w hbl hcl) (fun ss e => ?_)
    subst e
    exact ⟨List.nodup_nil, fun k => by rw [hinn k]; simp⟩
  | some r =>
    obtain ⟨es, clock, hm, ho⟩ := hinn
    have hheap : w.heap[r]? = some (.map es clock) := hpOf_obj.1 ho
    have hkey : ∀ x ∈ es.toList, ∃ k : Int, x.key = .int .i64 k ∧ f k = true := fun x hx => by
      have h1 := hm.keys x hx
      cases hxk : x.key <;> rw [hxk] at h1 <;> simp [MapKept.IsKey] at h1
      rename_i kd a
      subst h1
      refine ⟨a, rfl, ?_⟩
      have h2 := (hm.says a x.val).2 ⟨x, hx, hxk, rfl⟩
      unfold setM at h2
      cases hfa : f a with
      | true => rfl
      | false => rw [hfa] at h2; simp at h2
    have hsz' := hsz es clock hm
    have hmaxL : es.size ≤ maxLen := by unfold maxLen; omega
    have hrg : ∀ x ∈ es.toList, ∀ k : Int, x.key = .int .i64 k → WideElems.rd Try.prog 3 (fun _ => some ((.nil : DataW Unit), ([] : List MemPlace))) x = some (.int .i64 k, .nil) := fun x hx k hk => by
      obtain ⟨k', e1, e2⟩ := hkey x hx
      obtain rfl : k' = k := by rw [hk] at e1; simpa using e1.symm
      unfold WideElems.rd
      rw [hk, fitI hu3 (hw k' e2)]
      rfl
    have hown : w.ownsMap Try.prog 3 (fun _ => some ((.nil : DataW Unit), ([] : List MemPlace))) r es.size (.map ((es.toList.map (WideElems.rg Try.prog 3 (fun _ => some ((.nil : DataW Unit), ([] : List MemPlace))))).foldr DataW.insert [])) :=
      ⟨es, clock, hheap, ⟨hmaxL, hm.st, fun x hx => by obtain ⟨k, e1, _⟩ := hkey x hx; exact ⟨_, hrg x hx k e1⟩⟩, Nat.le_refl _, rfl⟩
    have hseq := AnyZI.keys_gives { keysA with } Fence.wide 1 trivial rfl (by omega) b r es.size _ w hbl hcl hown
    refine key _ _ (Nat.le_trans hown.size_le hsz') hseq (fun ss hp => ?_)
    have hint : ∀ x ∈ es.toList, ∀ k : Int, x.key = .int .i64 k → Go.intOf (WideElems.rg Try.prog 3 (fun _ => some ((.nil : DataW Unit), ([] : List MemPlace))) x).1 = k := fun x hx k hk => by
      rw [WideElems.rg_of (hrg x hx k hk)]; rfl
    have hik : ∀ (g : MapEntry → Lit × DataW Unit), (intKeys (.map ((es.toList.map g).foldr DataW.insert []))).Perm (es.toList.map (fun x => Go.intOf (g x).1)) := fun g => by
      have h := (WideShapes.sorted_perm (es.toList.map g)).map (fun p => Go.intOf p.1)
      rw [List.map_map] at h
      exact h
    have hp2 := hp.trans (hik _)
    clear hseq hown hrg hp
    generalize WideElems.rg Try.prog 3 (fun _ => some ((.nil : DataW Unit), ([] : List MemPlace))) = g at *
    refine ⟨hp2.nodup_iff.2 ?_, fun k => ?_⟩
    · refine List.pairwise_map.2 ((List.pairwise_map.1 hm.st.2.2).imp_of_mem fun {x y} hx hy hne e => hne ?_)
      obtain ⟨a, ha, _⟩ := hkey x hx
      obtain ⟨c, hc2, _⟩ := hkey y hy
      rw [hint x hx a ha, hint y hy c hc2] at e
      rw [ha, hc2, e]
    · rw [hp2.mem_iff, List.mem_map]
      constructor
      · rintro ⟨x, hx, rfl⟩
        obtain ⟨a, ha, hfa⟩ := hkey x hx
        rw [hint x hx a ha]; exact hfa
      · intro hfk
        have h1 : setM f k = some (.bool true) := by unfold setM; rw [if_pos hfk]
        obtain ⟨x, hx, hxk, _⟩ := (hm.says k _).1 h1
        exact ⟨x, hx, hint x hx k hxk⟩
end Go.Proofs.Ytacgheafbkfciaa
/- Contracts of functions of the given program, and plain laws on what they compute: parts of the proofs of laws. -/

namespace Go.Proofs.Ytacgheafbkfciaa
open Go Go.GL

/-- what is told of a volume -/
def rowS (S : Int → Int → Bool) (v : Int) : Int → Bool := if 0 ≤ v ∧ v < 4 then S v else fun _ => false
/-- numbers within bounds; and not too many -/
structure Few (S : Int → Int → Bool) (l : List Int) : Prop where
  wf : ∀ v k, S v k = true → (Lit.int .i64 k).wf = true
  mem : ∀ v k, S v k = true → k ∈ l
  len : l.length ≤ 100000
theorem length_le_of_mem : ∀ {a b : List Int}, a.Nodup → (∀ x ∈ a, x ∈ b) → a.length ≤ b.length
  | [], _, _, _ => Nat.zero_le _
  | x :: a, b, hn, hs => by
    have hx := hs x List.mem_cons_self
    have hn' := List.nodup_cons.1 hn
    have h := length_le_of_mem (a := a) (b := b.erase x) hn'.2 (fun y hy => by
      have hne : y ≠ x := fun e => hn'.1 (e ▸ hy)
      exact (List.mem_erase_of_ne hne).2 (hs y (List.mem_cons_of_mem _ hy)))
    rw [List.length_erase_of_mem hx] at h
    have : 0 < b.length := List.length_pos_of_mem hx
    simp only [List.length_cons]
    omega
theorem MapEs.few {f : Int → Bool} {es : Array MapEntry} {clock : Nat} (h : MapEs (setM f) es clock) {l : List Int} (hl : ∀ k, f k = true → k ∈ l) : es.size ≤ l.length := by
  have hk : ∀ x ∈ es.toList, ∃ k : Int, x.key = .int .i64 k ∧ f k = true := fun x hx => by
    have h1 := h.keys x hx
    cases hxk : x.key <;> rw [hxk] at h1 <;> simp [MapKept.IsKey] at h1
    rename_i kd a
    subst h1
    refine ⟨a, rfl, ?_⟩
    have h2 := (h.says a x.val).2 ⟨x, hx, hxk, rfl⟩
    unfold setM at h2
    cases hfa : f a with
    | true => rfl
    | false => rw [hfa] at h2; simp at h2
  let g : MapEntry → Int := fun x => match x.key with | .int _ a => a | _ => 0
  have hg : ∀ x ∈ es.toList, ∀ k : Int, x.key = .int .i64 k → g x = k := fun x _ k e => by show (match x.key with | .int _ a => a | _ => 0) = k; rw [e]
  have hlen : (es.toList.map g).length ≤ l.length := by
    refine length_le_of_mem ?_ (fun k hk' => ?_)
    · refine List.pairwise_map.2 ((List.pairwise_map.1 h.st.2.2).imp_of_mem fun {x y} hx hy hne e => hne ?_)
      obtain ⟨a, ha, _⟩ := hk x hx
      obtain ⟨c, hc, _⟩ := hk y hy
      rw [hg x hx a ha, hg y hy c hc] at e
      rw [ha, hc, e]
    · obtain ⟨x, hx, rfl⟩ := List.mem_map.1 hk'
      obtain ⟨a, ha, hfa⟩ := hk x hx
      rw [hg x hx a ha]
      exact hl a hfa
  simpa using hlen
theorem tab_inn {p : Nat} {S : Int → Int → Bool} {x : Refs} {A : Assn} {L : List Assn} (hu : Up A) (hA : ∀ k, A k → stars (tabL p S x) k) (m : A ∈ L) (v : Int) : Ent L (innO (rowS S v) (refAt x v)) := by
  unfold rowS refAt
  by_cases h0 : v = 0
  · subst h0; exact Ent.of hu hA m (Ent.mem (A := innO (S 0) x.2.1) (by unfold tabL; exact MM) (up_innO _ _) (fun _ a => a))
  by_cases h1 : v = 1
  · subst h1; exact Ent.of hu hA m (Ent.mem (A := innO (S 1) x.2.2.1) (by unfold tabL; exact MM) (up_innO _ _) (fun _ a => a))
  by_cases h2 : v = 2
  · subst h2; exact Ent.of hu hA m (Ent.mem (A := innO (S 2) x.2.2.2.1) (by unfold tabL; exact MM) (up_innO _ _) (fun _ a => a))
  by_cases h3 : v = 3
  · subst h3; exact Ent.of hu hA m (Ent.mem (A := innO (S 3) x.2.2.2.2) (by unfold tabL; exact MM) (up_innO _ _) (fun _ a => a))
  rw [if_neg h0, if_neg h1, if_neg h2, if_neg h3, if_neg (by omega)]
  exact fun _ _ _ => rfl
theorem tab_of {p : Nat} {S : Int → Int → Bool} {x : Refs} {A : Assn} {L : List Assn} (hu : Up A) (hA : ∀ k, A k → stars (tabL p S x) k) (m : A ∈ L) : Ent L (fun h => cellsAt p 0 [.map x.1] h ∧ outA x.1 (outM x) h) :=
  Ent.and (Ent.of hu hA m (Ent.whole (T := 28) (by unfold tabL; exact MM))) (Ent.of hu hA m (Ent.mem (A := outA x.1 (outM x)) (by unfold tabL; exact MM) (up_outA _ _) (fun _ a => a)))
def SortedPost (f : Int → Bool) (v : Value) (E : List Assn) : Prop := ∃ a cap l, SortedOf f l ∧ v = .slice a l.length cap ∧ E = [ownS a l.length cap 3 1 (l.map iV)]
set_option maxRecDepth 10000 in
theorem mof_rt (p : Nat) (S : Int → Int → Bool) (v : Int) {fl : List Int} (hF : Few S fl) : RT G 14 [.pointer (some ⟨p, 0, none⟩), .int .i64 v] (mtab p S) (SortedPost (rowS S v)) := by
  refine RT.enterEx Try.func14 rfl (by decide) rfl Try.ntmps14 rfl (fun x A hu hA => ?_)
  have hrow : ∀ k, rowS S v k = true → S v k = true := fun k h => by
    unfold rowS at h
    split at h
    · exact h
    · cases h
  repeat (first | refine GD ?_ | refine NW fun _ => ?_)
  refine WL.step rfl (OP.callRO rfl rfl (tof_ro p x v) (tab_of hu hA MM) rfl rfl ?_)
  refine WL.step rfl (OP.callRT rfl rfl (keys_rt _) (fun _ _ => trivial) rfl rfl ?_)
  rintro _ _ ⟨b, rfl, rfl⟩
  refine WL.step rfl (OP.callRT rfl rfl (sortedK_rt b (refAt x v) (rowS S v) (fun k h => hF.wf v k (hrow k h)) (fun es clock hm => Nat.le_trans (MapEs.few hm (fun k h => hF.mem v k (hrow k h))) hF.len)) (Ent.and (Ent.whole (T := 76) MM) (tab_inn hu hA MM v)) rfl rfl ?_)
  rintro _ _ ⟨a, cap, l, hl, rfl, rfl⟩
  repeat (first | refine GD ?_ | refine NW fun _ => ?_)
  exact ret1 rfl ⟨_, ⟨a, cap, l, hl, rfl, rfl⟩, II⟩
def lacksS (S : Int → Int → Bool) (mark : Int) (vols : List Int) : List Int := vols.filter (fun v => !rowS S v mark)
theorem lacksS_snoc (S : Int → Int → Bool) (mark : Int) (l : List Int) (v : Int) : lacksS S mark (l ++ [v]) = if rowS S v mark = true then lacksS S mark l else lacksS S mark l ++ [v] := by
  unfold lacksS
  rw [List.filter_append]
  cases h : rowS S v mark <;> simp [h]
def IntsPost (l : List Int) (v : Value) (E : List Assn) : Prop := ∃ a cap, v = .slice a l.length cap ∧ E = [ownS a l.length cap 3 1 (l.map iV)]
end Go.Proofs.Ytacgheafbkfciaa
