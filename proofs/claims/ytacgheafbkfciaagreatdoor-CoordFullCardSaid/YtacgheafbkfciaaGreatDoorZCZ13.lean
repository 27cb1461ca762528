/-
  The law CoordFull holds: whatever the input, the Go function returns true, and each argument reads as it did. Conditions: none beyond the statement's own.
-/
import Derived.Test.YtacgheafbkfciaaGreatDoorZCZ4
import Derived.Test.YtacgheafbkfciaaGreatDoorZCZ12
import Derived.Test.YtacgheafbkfciaaGreatDoorZCZ7
import Derived.Test.YtacgheafbkfciaaGreatDoorRows
import Derived.Test.YtacgheafbkfciaaGreatDoorTie
import Derived.Test.YtacgheafbkfciaaGreatDoorCards
import Derived.Test.YtacgheafbkfciaaGreatDoorZCZ3
import Derived.ChangeSame
import Derived.ChangeVars
import Derived.JoinedOf
import Derived.RowKit
import Derived.RowKitTokens
import Derived.LaidLaws
import Derived.LaidHandle
import Derived.Stop.Joined
import Derived.SevenTiedAt
/- Contracts of functions of the given program, and plain laws on what they compute: parts of the proofs of laws. -/

namespace Go.Proofs.YtacgheafbkfciaaGreatDoor
open Go Go.GL

def FaultR (b : Nat) (op : ByteArray) (at_ c : Int) : Assn := fun h => ErrT h ∧ cellsAt b 0 (faultCells op at_ c) h
theorem up_FaultR (b : Nat) (op : ByteArray) (at_ c : Int) : Up (FaultR b op at_ c) := up_and up_ErrT (up_cellsAt _ _ _)
set_option maxRecDepth 10000 in
theorem code_nil : RO G 49 [.nilIface] (fun _ => True) (.int .i64 0) := by
  refine RO.enter Tryz.func49 rfl (by decide) rfl Tryz.ntmps49 rfl (fun A hu hA => ?_) (fun _ _ _ h => h)
  repeat (first | refine GO ?_ | refine NW fun _ => ?_)
  refine WL.step rfl (OP.callRO rfl rfl (as_nil _) (fun _ _ => trivial) rfl rfl ?_)
  repeat (first | refine GO ?_ | refine NW fun _ => ?_)
  exact ret1 rfl ⟨rfl, MM⟩
set_option maxRecDepth 10000 in
theorem code_fault (b : Nat) (op : ByteArray) (at_ c : Int) : RO G 49 [.iface 185 (.pointer (some ⟨b, 0, none⟩))] (FaultR b op at_ c) (.int .i64 c) := by
  refine RO.enter Tryz.func49 rfl (by decide) rfl Tryz.ntmps49 rfl (fun A hu hA => ?_) (up_FaultR _ _ _ _)
  repeat (first | refine GO ?_ | refine NW fun _ => ?_)
  rename_i p
  refine WL.step rfl (OP.call (pre := [blk p [.int .i64 0] 44, A]) rfl rfl (as_code b p op at_ c (.int .i64 0) A hu (fun h x => (hA h x).1) (fun h x => (hA h x).2)) PS rfl rfl ?_)
  rintro _ _ ⟨rfl, rfl⟩
  repeat (first | refine GO ?_ | refine NW fun _ => ?_)
  exact ret1 rfl ⟨rfl, MM⟩
def Ptrs (l : List Value) (v : Value) (E : List Assn) : Prop := ∃ a cap, v = .slice a l.length cap ∧ E = [ownS a l.length cap 185 1 l]
set_option maxRecDepth 10000 in
theorem faults_nil : RT G 94 [.nilIface] (fun _ => True) (fun v E => v = .slice none 0 0 ∧ E = []) := by
  refine RT.enter Tryz.func94 rfl (by decide) rfl Tryz.ntmps94 rfl (fun A hu hA => ?_)
  repeat (first | refine GO ?_ | refine NW fun _ => ?_)
  rename_i p
  refine WC.loop (σ := Unit) (fun _ => True) (fun _ => [(0, .val .nilIface), (3, .val (.slice none 0 0)), (4, .val (.pointer (some ⟨p, 0, none⟩)))]) (fun _ => [A]) (fun _ => 0) () trivial ⟨rfl, rfl, rfl, trivial⟩ II ?_
  rintro _ _
  repeat (first | refine GO ?_ | refine NW fun _ => ?_)
  refine WL.step rfl (OP.callRO rfl rfl (as_nil _) (fun _ _ => trivial) rfl rfl ?_)
  repeat (first | refine GO ?_ | refine NW fun _ => ?_)
  exact ret1 rfl ⟨[], ⟨rfl, rfl⟩, II⟩
set_option maxHeartbeats 1000000 in
set_option maxRecDepth 10000 in
theorem faults_one (b : Nat) (op : ByteArray) (at_ c : Int) : RT G 94 [.iface 185 (.pointer (some ⟨b, 0, none⟩))] (FaultR b op at_ c) (Ptrs [.pointer (some ⟨b, 0, none⟩)]) := by
  refine RT.enter Tryz.func94 rfl (by decide) rfl Tryz.ntmps94 rfl (fun A hu hA => ?_)
  repeat (first | refine GO ?_ | refine NW fun _ => ?_)
  rename_i p
  refine WC.imp (Imp.nilS 185 1) ?_
  refine WC.loop (σ := Bool × Option Addr × Nat) (fun s => s.1 = true → s.2.1 = none ∧ s.2.2 = 0) (fun s => match s.1 with
      | true => [(0, .val (.iface 185 (.pointer (some ⟨b, 0, none⟩)))), (3, .val (.slice none 0 0)), (4, .val (.pointer (some ⟨p, 0, none⟩)))]
      | false => [(0, .val (.iface 44 (.int .i64 c))), (3, .val (.slice s.2.1 1 s.2.2)), (4, .val (.pointer (some ⟨p, 0, none⟩)))])
    (fun s => match s.1 with
      | true => [blk p [.pointer none] 185, ownS none 0 0 185 1 [], A]
      | false => [blk p [.pointer (some ⟨b, 0, none⟩)] 185, ownS s.2.1 1 s.2.2 185 1 [.pointer (some ⟨b, 0, none⟩)], A])
    (fun s => match s.1 with | true => 1 | false => 0) (true, none, 0) (fun _ => ⟨rfl, rfl⟩) ⟨rfl, rfl, rfl, trivial⟩ II ?_
  rintro ⟨s, a, cap⟩ hs
  cases s
  · dsimp only at hs ⊢
    repeat (first | refine GO ?_ | refine NW fun _ => ?_)
    refine WL.step rfl (OP.call (pre := [blk p [.pointer (some ⟨b, 0, none⟩)] 185, A]) rfl rfl (as_faultsN p c _ A hu (fun h x => (hA h x).1)) PS rfl rfl ?_)
    rintro _ _ ⟨rfl, rfl⟩
    repeat (first | refine GO ?_ | refine NW fun _ => ?_)
    exact ret1 rfl ⟨[_], ⟨a, cap, rfl, rfl⟩, II⟩
  · dsimp only at hs ⊢
    repeat (first | refine GO ?_ | refine NW fun _ => ?_)
    refine WL.step rfl (OP.call (pre := [blk p [.pointer none] 185, A]) rfl rfl (as_faults b p _ A hu (fun h x => (hA h x).1)) PS rfl rfl ?_)
    rintro _ _ ⟨rfl, rfl⟩
    repeat (first | refine GO ?_ | refine NW fun _ => ?_)
    refine WL.step rfl (OP.append rfl rfl rfl rfl rfl rfl rfl rfl rfl P1 (Ent.own MM) rfl (by decide) (by decide) rfl rfl (fun a2 cap2 => ?_))
    repeat (first | refine GO ?_ | refine NW fun _ => ?_)
    refine WL.step rfl (OP.load1 (v := .iface 44 (.int .i64 c)) rfl rfl rfl rfl (Ent.mem (A := A) MM hu (fun h x => cellsAt_one (i := 2) (hA h x).2 rfl)) rfl rfl ?_)
    repeat (first | refine GO ?_ | refine NW fun _ => ?_)
    exact ⟨(false, a2, cap2), (fun h => nomatch h), Nat.zero_lt_one, ⟨rfl, rfl, rfl, trivial⟩, II⟩
set_option maxHeartbeats 1000000 in
set_option maxRecDepth 10000 in
theorem first_nil (op : ByteArray) : RO G 55 [.nilIface, .string op] (fun _ => True) (.tuple #[.int .i64 0, .bool false]) := by
  refine RO.enter Tryz.func55 rfl (by decide) rfl Tryz.ntmps55 rfl (fun A hu hA => ?_) (fun _ _ _ h => h)
  repeat (first | refine GO ?_ | refine NW fun _ => ?_)
  refine WL.step rfl (OP.callRT rfl rfl faults_nil (fun _ _ => trivial) rfl rfl ?_)
  rintro v E ⟨rfl, rfl⟩
  repeat (first | refine GO ?_ | refine NW fun _ => ?_)
  refine WC.loop (σ := Unit) (fun _ => True) (fun _ => [(10, .val (.int .i64 0)), (11, .val (.int .i64 0))]) (fun _ => [A]) (fun _ => 0) () trivial ⟨rfl, rfl, trivial⟩ II ?_
  rintro _ _
  repeat (first | refine GD ?_ | refine NW fun _ => ?_)
  exact ret2 rfl rfl ⟨rfl, MM⟩
set_option maxHeartbeats 1000000 in
set_option maxRecDepth 10000 in
theorem first_fault (b : Nat) (op op' : ByteArray) (at_ c : Int) : RO G 55 [.iface 185 (.pointer (some ⟨b, 0, none⟩)), .string op'] (FaultR b op at_ c) (if op = op' then .tuple #[.int .i64 at_, .bool true] else .tuple #[.int .i64 0, .bool false]) := by
  refine RO.enter Tryz.func55 rfl (by decide) rfl Tryz.ntmps55 rfl (fun A hu hA => ?_) (up_FaultR _ _ _ _)
  repeat (first | refine GO ?_ | refine NW fun _ => ?_)
  refine WL.step rfl (OP.callRT rfl rfl (faults_one b op at_ c) (Ent.mem MM hu hA) rfl rfl ?_)
  rintro v E ⟨a, cap, rfl, rfl⟩
  refine WL.fact (Ent.some (Ent.own (a := a) (n := 1) (cap := cap) (T := 185) (size := 1) (cs := [.pointer (some ⟨b, 0, none⟩)]) MM) (by decide)) ?_
  rintro ⟨b2, off2, rfl⟩
  repeat (first | refine GO ?_ | refine NW fun _ => ?_)
  refine WC.loop (σ := Nat) (fun k => k ≤ 1 ∧ (k = 1 → op ≠ op')) (fun k => [(1, .val (.string op')), (9, .val (.slice (some ⟨b2, off2, none⟩) 1 cap)), (10, .val (.int .i64 1)), (11, .val (.int .i64 k))]) (fun _ => [ownS (some ⟨b2, off2, none⟩) 1 cap 185 1 [.pointer (some ⟨b, 0, none⟩)], A]) (fun k => 1 - k) 0 ⟨by decide, (fun h => absurd h (by decide))⟩ ⟨rfl, rfl, rfl, rfl, trivial⟩ II ?_
  rintro k ⟨hk, hne⟩
  obtain rfl | rfl : k = 0 ∨ k = 1 := by omega
  · repeat (first | refine GD ?_ | refine NW fun _ => ?_)
    refine WL.step rfl (OP.load1 (v := .pointer (some ⟨b, 0, none⟩)) rfl rfl rfl rfl (Ent.elem (i := 0) (Ent.own (T := 185) MM) rfl rfl) rfl rfl ?_)
    repeat (first | refine GD ?_ | refine NW fun _ => ?_)
    refine WL.step rfl (OP.load1 (v := .string op) rfl rfl rfl rfl (Ent.mem (A := A) MM hu (fun h x => cellsAt_one (i := 0) (hA h x).2 rfl)) rfl rfl ?_)
    by_cases ho : op = op'
    · rw [if_pos ho]
      repeat (first | refine GD ?_ | refine NW fun _ => ?_)
      refine WL.step rfl (OP.load1 (v := .int .i64 at_) rfl rfl rfl rfl (Ent.mem (A := A) MM hu (fun h x => cellsAt_one (i := 1) (hA h x).2 rfl)) rfl rfl ?_)
      repeat (first | refine GD ?_ | refine NW fun _ => ?_)
      exact ret2 rfl rfl ⟨rfl, MM⟩
    · rw [if_neg ho]
      repeat (first | refine GD ?_ | refine NW fun _ => ?_)
      exact ⟨1, ⟨by decide, fun _ => ho⟩, by decide, ⟨rfl, rfl, rfl, rfl, trivial⟩, Imp.refl _⟩
  · rw [if_neg (hne rfl)]
    repeat (first | refine GD ?_ | refine NW fun _ => ?_)
    exact ret2 rfl rfl ⟨rfl, MM⟩
end Go.Proofs.YtacgheafbkfciaaGreatDoor
/- Contracts of functions of the given program, and plain laws on what they compute: parts of the proofs of laws. -/

namespace Go.Proofs.YtacgheafbkfciaaGreatDoor
open Go Go.GL

def chainE (ch : Chain) (c : Int) : Assn := fun h => ErrT h ∧ chainR ch c h
theorem up_chainE (ch : Chain) (c : Int) : Up (chainE ch c) := up_and up_ErrT (up_chainR ch c)
set_option maxRecDepth 10000 in
theorem unwrapC_ro (b : Nat) (op : ByteArray) (at_ : Int) (v : Value) : RO G 173 [.pointer (some ⟨b, 0, none⟩)] (cellsAt b 0 [.string op, .int .i64 at_, v]) v := by
  refine RO.enter Tryz.func173 rfl (by decide) rfl Tryz.ntmps173 rfl (fun A hu hA => ?_) (up_cellsAt _ _ _)
  repeat (first | refine GO ?_ | refine NW fun _ => ?_)
  refine WL.step rfl (OP.load1 (v := v) rfl rfl rfl rfl (Ent.mem (A := A) MM hu (fun h x => cellsAt_one (i := 2) (hA h x) rfl)) rfl rfl ?_)
  repeat (first | refine GO ?_ | refine NW fun _ => ?_)
  exact ret1 rfl ⟨rfl, MM⟩
set_option maxHeartbeats 4000000 in
set_option maxRecDepth 10000 in
theorem asN_chain (p q : Nat) (c : Int) (old : Value) (A : Assn) (hu : Up A) (ch : Chain) (hA : ∀ h, A h → chainR ch c h) :
    Triple G 112 [valOf ch c, .iface 175 (.pointer (some ⟨p, 0, none⟩)), .agg #[hd 175, .pointer (some ⟨q, 0, none⟩), .int .u64 150], rt 44] [blk p [old] 44, blk q [.pointer (some ⟨p, 0, none⟩)] 175, A] (fun v M => v = .bool true ∧ M = [blk p [.int .i64 c] 44, A]) := by
  refine Triple.enter Tryz.func112 rfl (by decide) rfl Tryz.ntmps112 rfl (fun X => ?_)
  repeat (first | refine GO ?_ | refine NW fun _ => ?_)
  rename_i bx
  refine WC.loop (σ := Chain) (fun s => ∀ h, A h → chainR s c h) (fun s => [(0, .val (valOf s c)), (1, .val (.iface 175 (.pointer (some ⟨p, 0, none⟩)))), (3, .val (rt 44)), (6, .val (.pointer (some ⟨bx, 0, none⟩))), (8, .val (.bool false))])
    (fun _ => [blk bx [hd 175, .pointer (some ⟨q, 0, none⟩), .int .u64 150] 202, blk p [old] 44, blk q [.pointer (some ⟨p, 0, none⟩)] 175, A, X]) (fun s => s.length) ch hA ⟨rfl, rfl, rfl, rfl, rfl, trivial⟩ II ?_
  rintro s hs
  cases s with
  | nil =>
    repeat (first | refine GD ?_ | refine NW fun _ => ?_)
    refine WL.step rfl (OP.extP (.call xTypeOf rfl rfl) (fun w _ => typeOfN _ w) rfl rfl ?_)
    repeat (first | refine GD ?_ | refine NW fun _ => ?_)
    refine WL.step rfl (OP.extP (.inv xAssignableTo rfl rfl rfl (fun w => mAssignableTo _ w)) (fun w _ => assignNN w) rfl rfl ?_)
    repeat (first | refine GD ?_ | refine NW fun _ => ?_)
    refine WL.step rfl (OP.extP (.call xElemV rfl rfl) (fun w s => elemVNP _ ⟨p, 0, none⟩ w (cell_of_blk0 (b := q) s MM rfl)) rfl rfl ?_)
    repeat (first | refine GD ?_ | refine NW fun _ => ?_)
    refine WL.step rfl (OP.extNew (mk := (fun n => .agg #[hd 44, .pointer (some ⟨n, 0, none⟩), .int .u64 130])) (.call xValueOf rfl rfl) (fun w _ => valueOfN _ w) rfl rfl (fun q2 => ?_))
    repeat (first | refine GD ?_ | refine NW fun _ => ?_)
    refine WL.step rfl (OP.extSet (.call xSet rfl rfl) (fun w s => setN ⟨p, 0, none⟩ ⟨q2, 0, none⟩ c old w (cell_of_blk0 (b := q2) s MM rfl) (cell_of_blk0 (b := p) s MM rfl) (Sat.notFrozen (b := p) (c := [old]) (T := 44) s MM (Nat.zero_lt_succ _))) (by repeat (first | exact Upd.here _ _ _ _ _ | apply Upd.there)) rfl rfl ?_)
    repeat (first | refine GD ?_ | refine NW fun _ => ?_)
    exact ret1 rfl ⟨_, ⟨rfl, rfl⟩, II⟩
  | cons x r =>
    repeat (first | refine GD ?_ | refine NW fun _ => ?_)
    refine WL.step rfl (OP.extP (.call xTypeOf rfl rfl) (fun w _ => typeOfF _ w) rfl rfl ?_)
    repeat (first | refine GD ?_ | refine NW fun _ => ?_)
    refine WL.step rfl (OP.extP (.inv xAssignableTo rfl rfl rfl (fun w => mAssignableTo _ w)) (fun w _ => assignFN w) rfl rfl ?_)
    repeat (first | refine GD ?_ | refine NW fun _ => ?_)
    refine WL.step rfl (OP.assert rfl rfl (fun w => assertFIA _ w) rfl rfl ?_)
    repeat (first | refine GD ?_ | refine NW fun _ => ?_)
    refine WL.step rfl (OP.assert rfl rfl (fun w => assertFIU _ w) rfl rfl ?_)
    repeat (first | refine GD ?_ | refine NW fun _ => ?_)
    refine WL.step rfl (OP.invRO rfl rfl (fun w => mUnwrap _ w) (unwrapC_ro x.1 x.2.1 x.2.2 (valOf r c)) (Ent.mem (A := A) MM hu (fun h a => (hs h a).1)) rfl rfl ?_)
    cases r with
    | nil =>
      repeat (first | refine GD ?_ | refine NW fun _ => ?_)
      exact ⟨[], (fun h a => (hs h a).2), by simp, ⟨rfl, rfl, rfl, rfl, rfl, trivial⟩, II⟩
    | cons y r =>
      repeat (first | refine GD ?_ | refine NW fun _ => ?_)
      exact ⟨y :: r, (fun h a => (hs h a).2), by simp, ⟨rfl, rfl, rfl, rfl, rfl, trivial⟩, II⟩
set_option maxHeartbeats 4000000 in
set_option maxRecDepth 10000 in
theorem as_codeC (p : Nat) (c : Int) (old : Value) (A : Assn) (hu : Up A) (ch : Chain) (hA : ∀ h, A h → chainE ch c h) :
    Triple G 86 [valOf ch c, .iface 175 (.pointer (some ⟨p, 0, none⟩))] ([blk p [old] 44, A]) (fun v M => v = .bool true ∧ M = [blk p [.int .i64 c] 44, A]) := by
  refine Triple.enter Tryz.func86 rfl (by decide) rfl Tryz.ntmps86 rfl (fun F => ?_)
  have hE : ∀ h, A h → ErrT h := fun h a => (hA h a).1
  have hN := fun p q old => asN_chain p q c old A hu ch (fun h a => (hA h a).2)
  cases ch with
  | nil =>
    repeat (first | refine GO ?_ | refine NW fun _ => ?_)
    refine WL.step rfl (OP.extNew (mk := fun n => .agg #[hd 175, .pointer (some ⟨n, 0, none⟩), .int .u64 150]) (.call xValueOf rfl rfl) (fun w _ => valueOfNP _ w) rfl rfl (fun q => ?_))
    repeat (first | refine GO ?_ | refine NW fun _ => ?_)
    refine WL.step rfl (OP.extP (.call xType rfl rfl) (fun w _ => typeNP _ w) rfl rfl ?_)
    repeat (first | refine GO ?_ | refine NW fun _ => ?_)
    refine WL.step rfl (OP.extP (.inv xKind rfl rfl rfl (fun w => mKind _ w)) (fun w _ => kindNP w) rfl rfl ?_)
    repeat (first | refine GO ?_ | refine NW fun _ => ?_)
    refine WL.guardT rfl rfl rfl rfl (OP.extP (.call xIsNil rfl rfl) (fun w s => isNilNP _ ⟨p, 0, none⟩ w (cell_of_blk0 (b := q) s MM rfl)) rfl rfl ?_)
    repeat (first | refine GO ?_ | refine NW fun _ => ?_)
    refine WL.step rfl (OP.extP (.inv xElem rfl rfl rfl (fun w => mElem _ w)) (fun w _ => elemNP w) rfl rfl ?_)
    repeat (first | refine GO ?_ | refine NW fun _ => ?_)
    refine WL.step rfl (OP.extP (.inv xKind rfl rfl rfl (fun w => mKind _ w)) (fun w _ => kindN w) rfl rfl ?_)
    repeat (first | refine GO ?_ | refine NW fun _ => ?_)
    refine WL.guardT rfl rfl rfl rfl (OP.load1 (v := errT) rfl rfl rfl rfl (Ent.mem (A := A) MM hu hE) rfl rfl ?_)
    repeat (first | refine GO ?_ | refine NW fun _ => ?_)
    refine WL.guardT rfl rfl rfl rfl (OP.extP (.inv xImplements rfl rfl rfl (fun w => mImplements _ w)) (fun w _ => implementsN w) rfl rfl ?_)
    repeat (first | refine GO ?_ | refine NW fun _ => ?_)
    refine WL.step rfl (OP.call (pre := [blk p [old] 44, blk q [.pointer (some ⟨p, 0, none⟩)] 175, A]) rfl rfl (hN p q old) PS rfl rfl ?_)
    rintro _ _ ⟨rfl, rfl⟩
    repeat (first | refine GO ?_ | refine NW fun _ => ?_)
    exact ret1 rfl ⟨_, ⟨rfl, rfl⟩, II⟩
  | cons x r =>
    repeat (first | refine GO ?_ | refine NW fun _ => ?_)
    refine WL.step rfl (OP.extNew (mk := fun n => .agg #[hd 175, .pointer (some ⟨n, 0, none⟩), .int .u64 150]) (.call xValueOf rfl rfl) (fun w _ => valueOfNP _ w) rfl rfl (fun q => ?_))
    repeat (first | refine GO ?_ | refine NW fun _ => ?_)
    refine WL.step rfl (OP.extP (.call xType rfl rfl) (fun w _ => typeNP _ w) rfl rfl ?_)
    repeat (first | refine GO ?_ | refine NW fun _ => ?_)
    refine WL.step rfl (OP.extP (.inv xKind rfl rfl rfl (fun w => mKind _ w)) (fun w _ => kindNP w) rfl rfl ?_)
    repeat (first | refine GO ?_ | refine NW fun _ => ?_)
    refine WL.guardT rfl rfl rfl rfl (OP.extP (.call xIsNil rfl rfl) (fun w s => isNilNP _ ⟨p, 0, none⟩ w (cell_of_blk0 (b := q) s MM rfl)) rfl rfl ?_)
    repeat (first | refine GO ?_ | refine NW fun _ => ?_)
    refine WL.step rfl (OP.extP (.inv xElem rfl rfl rfl (fun w => mElem _ w)) (fun w _ => elemNP w) rfl rfl ?_)
    repeat (first | refine GO ?_ | refine NW fun _ => ?_)
    refine WL.step rfl (OP.extP (.inv xKind rfl rfl rfl (fun w => mKind _ w)) (fun w _ => kindN w) rfl rfl ?_)
    repeat (first | refine GO ?_ | refine NW fun _ => ?_)
    refine WL.guardT rfl rfl rfl rfl (OP.load1 (v := errT) rfl rfl rfl rfl (Ent.mem (A := A) MM hu hE) rfl rfl ?_)
    repeat (first | refine GO ?_ | refine NW fun _ => ?_)
    refine WL.guardT rfl rfl rfl rfl (OP.extP (.inv xImplements rfl rfl rfl (fun w => mImplements _ w)) (fun w _ => implementsN w) rfl rfl ?_)
    repeat (first | refine GO ?_ | refine NW fun _ => ?_)
    refine WL.step rfl (OP.call (pre := [blk p [old] 44, blk q [.pointer (some ⟨p, 0, none⟩)] 175, A]) rfl rfl (hN p q old) PS rfl rfl ?_)
    rintro _ _ ⟨rfl, rfl⟩
    repeat (first | refine GO ?_ | refine NW fun _ => ?_)
    exact ret1 rfl ⟨_, ⟨rfl, rfl⟩, II⟩
set_option maxRecDepth 10000 in
theorem codeC (ch : Chain) (c : Int) : RO G 49 [valOf ch c] (chainE ch c) (.int .i64 c) := by
  refine RO.enter Tryz.func49 rfl (by decide) rfl Tryz.ntmps49 rfl (fun A hu hA => ?_) (up_chainE _ _)
  repeat (first | refine GO ?_ | refine NW fun _ => ?_)
  rename_i p
  refine WL.step rfl (OP.call (pre := [blk p [.int .i64 0] 44, A]) rfl rfl (as_codeC p c (.int .i64 0) A hu ch hA) PS rfl rfl ?_)
  rintro _ _ ⟨rfl, rfl⟩
  repeat (first | refine GO ?_ | refine NW fun _ => ?_)
  exact ret1 rfl ⟨rfl, MM⟩
def ptrOf (x : Nat × ByteArray × Int) : Value := .pointer (some ⟨x.1, 0, none⟩)
theorem asFN (p : Nat) (ch : Chain) (c : Int) (old : Value) (A : Assn) (hu : Up A) (hA : ∀ h, A h → ErrT h) :
    Triple G 86 [valOf ch c, .iface 224 (.pointer (some ⟨p, 0, none⟩))] ([blk p [old] 185, A]) (fun v M => match ch with
      | [] => v = .bool false ∧ M = [blk p [old] 185, A]
      | x :: _ => v = .bool true ∧ M = [blk p [ptrOf x] 185, A]) := by
  cases ch with
  | nil => exact as_faultsN p c old A hu hA
  | cons x r => exact as_faults x.1 p old A hu hA
set_option maxHeartbeats 1000000 in
set_option maxRecDepth 10000 in
theorem faultsC (ch : Chain) (c : Int) (hl : ch.length < 1000) : RT G 94 [valOf ch c] (chainE ch c) (Ptrs (ch.map ptrOf)) := by
  refine RT.enter Tryz.func94 rfl (by decide) rfl Tryz.ntmps94 rfl (fun A hu hA => ?_)
  repeat (first | refine GO ?_ | refine NW fun _ => ?_)
  rename_i p
  refine WC.imp (Imp.nilS 185 1) ?_
  refine WC.loop (σ := Chain × Chain × Value × Option Addr × Nat) (fun s => s.1 ++ s.2.1 = ch ∧ ∀ h, A h → chainR s.2.1 c h)
    (fun s => [(0, .val (valOf s.2.1 c)), (3, .val (.slice s.2.2.2.1 s.1.length s.2.2.2.2)), (4, .val (.pointer (some ⟨p, 0, none⟩)))])
    (fun s => [blk p [s.2.2.1] 185, ownS s.2.2.2.1 s.1.length s.2.2.2.2 185 1 (s.1.map ptrOf), A])
    (fun s => s.2.1.length) ([], ch, .pointer none, none, 0) ⟨rfl, fun h a => (hA h a).2⟩ ⟨rfl, rfl, rfl, trivial⟩ II ?_
  rintro ⟨d, r, old, a, cap⟩ ⟨hd, hr⟩
  dsimp only at hd hr ⊢
  have hE : ∀ h, A h → ErrT h := fun h a => (hA h a).1
  cases r with
  | nil =>
    rw [List.append_nil] at hd
    subst hd
    repeat (first | refine GO ?_ | refine NW fun _ => ?_)
    refine WL.step rfl (OP.call (pre := [blk p [old] 185, A]) rfl rfl (as_faultsN p c _ A hu hE) PS rfl rfl ?_)
    rintro _ _ ⟨rfl, rfl⟩
    repeat (first | refine GO ?_ | refine NW fun _ => ?_)
    exact ret1 rfl ⟨[_], ⟨a, cap, by rw [List.length_map], by rw [List.length_map]⟩, II⟩
  | cons x r =>
    have hdl : d.length < 1000 := by rw [← hd, List.length_append] at hl; omega
    repeat (first | refine GO ?_ | refine NW fun _ => ?_)
    refine WL.step rfl (OP.call (pre := [blk p [old] 185, A]) rfl rfl (as_faults x.1 p _ A hu hE) PS rfl rfl ?_)
    rintro _ _ ⟨rfl, rfl⟩
    repeat (first | refine GO ?_ | refine NW fun _ => ?_)
    refine WL.step rfl (OP.append rfl rfl rfl rfl rfl rfl rfl rfl rfl P1 (Ent.own MM) rfl (by omega) (by omega) rfl rfl (fun a2 cap2 => ?_))
    repeat (first | refine GO ?_ | refine NW fun _ => ?_)
    refine WL.step rfl (OP.load1 (v := valOf r c) rfl rfl rfl rfl (Ent.mem (A := A) MM hu (fun h y => cellsAt_one (i := 2) (hr h y).1 rfl)) rfl rfl ?_)
    repeat (first | refine GO ?_ | refine NW fun _ => ?_)
    exact ⟨(d ++ [x], r, .pointer (some ⟨x.1, 0, none⟩), a2, cap2), ⟨by rw [← hd]; simp, fun h a => (hr h a).2⟩, by dsimp only; simp, ⟨rfl, by rw [List.length_append]; rfl, rfl, trivial⟩, by rw [List.length_append, List.map_append]; exact II⟩
/-- the outermost one of a name -/
def firstC (op : ByteArray) : List (ByteArray × Int) → Option Int
  | [] => none
  | x :: r => if x.1 = op then some x.2 else firstC op r
def firstV (o : Option Int) : Value := match o with
  | some n => .tuple #[.int .i64 n, .bool true]
  | none => .tuple #[.int .i64 0, .bool false]
theorem chainR_get : ∀ {ch : Chain} {c : Int} {h : Hp}, chainR ch c h → ∀ k (hk : k < ch.length), ∃ v, cellsAt ch[k].1 0 [.string ch[k].2.1, .int .i64 ch[k].2.2, v] h
  | x :: r, c, h, hh, 0, _ => ⟨_, hh.1⟩
  | x :: r, c, h, hh, k + 1, hk => chainR_get hh.2 k (by simpa using hk)
theorem cellsAt_pre {b off : Nat} {l m : List Value} {h : Hp} (x : cellsAt b off (l ++ m) h) : cellsAt b off l h := by
  obtain ⟨c, T, fr, hb, hc⟩ := x
  exact ⟨c, T, fr, hb, fun i v hi => hc i v (by rw [List.getElem?_append_left (List.getElem?_eq_some_iff.1 hi).1]; exact hi)⟩
set_option maxHeartbeats 1000000 in
set_option maxRecDepth 10000 in
theorem firstC_ro (ch : Chain) (c : Int) (op : ByteArray) (hl : ch.length < 1000) : RO G 55 [valOf ch c, .string op] (chainE ch c) (firstV (firstC op (ch.map Prod.snd))) := by
  refine RO.enter Tryz.func55 rfl (by decide) rfl Tryz.ntmps55 rfl (fun A hu hA => ?_) (up_chainE _ _)
  repeat (first | refine GO ?_ | refine NW fun _ => ?_)
  refine WL.step rfl (OP.callRT rfl rfl (faultsC ch c hl) (Ent.mem MM hu hA) rfl rfl ?_)
  rintro v E ⟨a, cap, rfl, rfl⟩
  rw [List.length_map]
  repeat (first | refine GO ?_ | refine NW fun _ => ?_)
  refine WC.loop (σ := Nat) (fun k => k ≤ ch.length ∧ firstC op (ch.map Prod.snd) = firstC op ((ch.drop k).map Prod.snd)) (fun k => [(1, .val (.string op)), (9, .val (.slice a ch.length cap)), (10, .val (.int .i64 ch.length)), (11, .val (.int .i64 k))]) (fun _ => [ownS a ch.length cap 185 1 (ch.map ptrOf), A]) (fun k => ch.length - k) 0 ⟨Nat.zero_le _, rfl⟩ ⟨rfl, rfl, rfl, rfl, trivial⟩ II ?_
  rintro k ⟨hk, hf⟩
  by_cases hlt : k < ch.length
  rotate_left
  · rw [List.drop_eq_nil_of_le (by omega)] at hf
    rw [hf]
    repeat (first | refine GD ?_ | refine NW fun _ => ?_)
    exact ret2 rfl rfl ⟨rfl, MM⟩
  rw [List.drop_eq_getElem_cons hlt, List.map_cons] at hf
  refine WC.fact (Ent.some (Ent.own (a := a) (n := ch.length) (cap := cap) (T := 185) (size := 1) (cs := ch.map ptrOf) MM) (by omega)) ?_
  rintro ⟨b2, off2, rfl⟩
  have hg : ∀ {L}, A ∈ L → Ent L (cellsAt ch[k].1 0 [.string ch[k].2.1, .int .i64 ch[k].2.2]) := fun m => Ent.mem m hu fun h a => by
    obtain ⟨v, hv⟩ := chainR_get (hA h a).2 k hlt
    exact cellsAt_pre (m := [v]) hv
  have hel : (ch.map ptrOf)[k * 1]? = some (ptrOf ch[k]) := by simp [hlt]
  generalize ch[k] = x at *
  repeat (first | refine GD ?_ | refine NW fun _ => ?_)
  refine WL.step rfl (OP.load1 (v := .pointer (some ⟨x.1, 0, none⟩)) rfl rfl rfl rfl (Ent.elem (i := k * 1) (Ent.own (T := 185) MM) rfl hel) rfl rfl ?_)
  repeat (first | refine GD ?_ | refine NW fun _ => ?_)
  refine WL.step rfl (OP.load1 (v := .string x.2.1) rfl rfl rfl rfl (Ent.one (i := 0) (hg MM) rfl) rfl rfl ?_)
  by_cases ho : x.2.1 = op
  · rw [hf, firstC, if_pos ho]
    repeat (first | refine GD ?_ | refine NW fun _ => ?_)
    refine WL.step rfl (OP.load1 (v := .int .i64 x.2.2) rfl rfl rfl rfl (Ent.one (i := 1) (hg MM) rfl) rfl rfl ?_)
    repeat (first | refine GD ?_ | refine NW fun _ => ?_)
    exact ret2 rfl rfl ⟨rfl, MM⟩
  · rw [firstC, if_neg ho] at hf
    repeat (first | refine GD ?_ | refine NW fun _ => ?_)
    exact ⟨k + 1, ⟨by omega, hf⟩, by omega, ⟨rfl, rfl, rfl, rfl, trivial⟩, Imp.refl _⟩
end Go.Proofs.YtacgheafbkfciaaGreatDoor
/- Contracts of functions of the given program, and plain laws on what they compute: parts of the proofs of laws. -/

namespace Go.Proofs.YtacgheafbkfciaaGreatDoor
open Go Go.GL Go.Extern

/-! errors.Is -/
theorem xComparable : IsExt Tryz.prog 179 (ReflectliteType.method (fun t => do Rtype.noPackHeld "Comparable" t; pure (.bool (← typeInfo t).comparable))) := fun args w => run_callFunc_extern (e := (ReflectliteType.method (fun t => do Rtype.noPackHeld "Comparable" t; pure (.bool (← typeInfo t).comparable)))) Tryz.func179 (by kernel_rfl) (by kernel_rfl) (by kernel_rfl) (by kernel_rfl) args w
theorem mComparable (h : Value) (w : World) : (Go.method (Tryz.prog.types.size + Made.depth) 210 (.agg #[h]) "Comparable").run Tryz.prog w = .ok (179, .agg #[h]) w := by kernel_rfl
theorem comparableN (w : World) : ((ReflectliteType.method (fun t => do Rtype.noPackHeld "Comparable" t; pure (.bool (← typeInfo t).comparable))) #[.agg #[hd 44]]).run Tryz.prog w = .ok (.bool true) w := by kernel_rfl
theorem assertFIS (v : Value) (w : World) : (Instr.typeAssert (.iface 185 v) 25 212 true).run Tryz.prog w = .ok (.tuple #[.nilIface, .bool false]) w := run_typeAssert_lacksB Tryz.underlying212 (by kernel_rfl) (by kernel_rfl) v 25 w
theorem assertNIS (v : Value) (w : World) : (Instr.typeAssert (.iface 44 v) 25 212 true).run Tryz.prog w = .ok (.tuple #[.nilIface, .bool false]) w := run_typeAssert_lacksB Tryz.underlying212 (by kernel_rfl) (by kernel_rfl) v 25 w
set_option maxHeartbeats 4000000 in
set_option maxRecDepth 10000 in
theorem is_chain (ch : Chain) (c e : Int) : RO G 88 [valOf ch c, .iface 44 (.int .i64 e), .bool true] (chainR ch c) (.bool (decide (c = e))) := by
  refine RO.enter Tryz.func88 rfl (by decide) rfl Tryz.ntmps88 rfl (fun A hu hA => ?_) (up_chainR _ _)
  repeat (first | refine GO ?_ | refine NW fun _ => ?_)
  refine WC.loop (σ := Chain) (fun s => ∀ h, A h → chainR s c h) (fun s => [(0, .val (valOf s c)), (1, .val (.iface 44 (.int .i64 e))), (2, .val (.bool true))])
    (fun _ => [A]) (fun s => s.length) ch hA ⟨rfl, rfl, rfl, trivial⟩ II ?_
  rintro s hs
  cases s with
  | nil =>
    by_cases hce : c = e
    · rw [decide_eq_true hce]
      repeat (first | refine GD ?_ | refine NW fun _ => ?_)
      exact ret1 rfl ⟨rfl, MM⟩
    rw [decide_eq_false hce]
    repeat (first | refine GD ?_ | refine NW fun _ => ?_)
    refine WL.step rfl (OP.assert rfl rfl (fun w => assertNIS _ w) rfl rfl ?_)
    repeat (first | refine GD ?_ | refine NW fun _ => ?_)
    refine WL.step rfl (OP.assert rfl rfl (fun w => assertNIU _ w) rfl rfl ?_)
    repeat (first | refine GD ?_ | refine NW fun _ => ?_)
    refine WL.step rfl (OP.assert rfl rfl (fun w => assertNIL _ w) rfl rfl ?_)
    repeat (first | refine GD ?_ | refine NW fun _ => ?_)
    exact ret1 rfl ⟨rfl, MM⟩
  | cons x r =>
    repeat (first | refine GD ?_ | refine NW fun _ => ?_)
    refine WL.step rfl (OP.assert rfl rfl (fun w => assertFIS _ w) rfl rfl ?_)
    repeat (first | refine GD ?_ | refine NW fun _ => ?_)
    refine WL.step rfl (OP.assert rfl rfl (fun w => assertFIU _ w) rfl rfl ?_)
    repeat (first | refine GD ?_ | refine NW fun _ => ?_)
    refine WL.step rfl (OP.invRO rfl rfl (fun w => mUnwrap _ w) (unwrapC_ro x.1 x.2.1 x.2.2 (valOf r c)) (Ent.mem (A := A) MM hu (fun h a => (hs h a).1)) rfl rfl ?_)
    cases r with
    | nil =>
      repeat (first | refine GD ?_ | refine NW fun _ => ?_)
      exact ⟨[], (fun h a => (hs h a).2), by simp, ⟨rfl, rfl, rfl, trivial⟩, II⟩
    | cons y r =>
      repeat (first | refine GD ?_ | refine NW fun _ => ?_)
      exact ⟨y :: r, (fun h a => (hs h a).2), by simp, ⟨rfl, rfl, rfl, trivial⟩, II⟩
set_option maxHeartbeats 4000000 in
set_option maxRecDepth 10000 in
theorem eis_chain (ch : Chain) (c e : Int) : RO G 50 [valOf ch c, .iface 44 (.int .i64 e)] (chainR ch c) (.bool (decide (c = e))) := by
  refine RO.enter Tryz.func50 rfl (by decide) rfl Tryz.ntmps50 rfl (fun A hu hA => ?_) (up_chainR _ _)
  have hic := is_chain ch c e
  cases ch with
  | nil =>
    dsimp only [valOf] at hic ⊢
    repeat (first | refine GO ?_ | refine NW fun _ => ?_)
    refine WL.step rfl (OP.extP (.call xTypeOf rfl rfl) (fun w _ => typeOfN _ w) rfl rfl ?_)
    repeat (first | refine GO ?_ | refine NW fun _ => ?_)
    refine WL.step rfl (OP.extP (.inv xComparable rfl rfl rfl (fun w => mComparable _ w)) (fun w _ => comparableN w) rfl rfl ?_)
    repeat (first | refine GO ?_ | refine NW fun _ => ?_)
    refine WL.step rfl (OP.callRO rfl rfl hic (Ent.mem MM hu hA) rfl rfl ?_)
    repeat (first | refine GO ?_ | refine NW fun _ => ?_)
    exact ret1 rfl ⟨rfl, MM⟩
  | cons x r =>
    dsimp only [valOf] at hic ⊢
    repeat (first | refine GO ?_ | refine NW fun _ => ?_)
    refine WL.step rfl (OP.extP (.call xTypeOf rfl rfl) (fun w _ => typeOfN _ w) rfl rfl ?_)
    repeat (first | refine GO ?_ | refine NW fun _ => ?_)
    refine WL.step rfl (OP.extP (.inv xComparable rfl rfl rfl (fun w => mComparable _ w)) (fun w _ => comparableN w) rfl rfl ?_)
    repeat (first | refine GO ?_ | refine NW fun _ => ?_)
    refine WL.step rfl (OP.callRO rfl rfl hic (Ent.mem MM hu hA) rfl rfl ?_)
    repeat (first | refine GO ?_ | refine NW fun _ => ?_)
    exact ret1 rfl ⟨rfl, MM⟩
set_option maxRecDepth 10000 in
theorem isC_ro (ch : Chain) (c e : Int) (he : e ≠ 0) : RO G 16 [valOf ch c, .int .i64 e] (chainR ch c) (.bool (decide (c = e))) := by
  refine RO.enter Tryz.func16 rfl (by decide) rfl Tryz.ntmps16 rfl (fun A hu hA => ?_) (up_chainR _ _)
  repeat (first | refine GD ?_ | refine NW fun _ => ?_)
  refine WL.step rfl (OP.callRO rfl rfl (eis_chain ch c e) (Ent.mem MM hu hA) rfl rfl ?_)
  repeat (first | refine GD ?_ | refine NW fun _ => ?_)
  exact ret1 rfl ⟨rfl, MM⟩
end Go.Proofs.YtacgheafbkfciaaGreatDoor
/- Contracts of functions of the given program, and plain laws on what they compute: parts of the proofs of laws. -/

namespace Go.Proofs.YtacgheafbkfciaaGreatDoor
open Go Go.GL

def fAB : List Bool := [true, true, false, false]
theorem appendM_full {J : Jrn} {D : Dsk} {r : Rec} (h : J.held.length = J.ring) : appendM J D r = .error 6 := by
  unfold appendM
  rw [if_pos h]
set_option maxHeartbeats 16000000 in
set_option maxRecDepth 10000 in
theorem cfull_ro (ring rounds : Int) (hr0 : 0 ≤ ring ∧ ring ≤ 255) (hm0 : 0 ≤ rounds ∧ rounds ≤ 255) :
    RO G 3 [.int .u8 ring, .int .u8 rounds] (fun _ => True) (.bool true) := by
  refine RO.enter Tryz.func3 rfl (by decide) rfl Tryz.ntmps3 rfl (fun A hu hA => ?_) (fun _ _ _ h => h)
  have hww : widest = 1152921504606846975 := rfl
  obtain ⟨r, hr, hr1, hr12⟩ : ∃ r : Nat, 1 + ring % 12 = r ∧ 1 ≤ r ∧ r ≤ 12 := ⟨(1 + ring % 12).toNat, by omega, by omega, by omega⟩
  obtain ⟨N, hN, hNr⟩ : ∃ N : Nat, rounds % ((r : Int) + 1) = N ∧ N ≤ r := by
    have h1 := Int.emod_nonneg rounds (show (r : Int) + 1 ≠ 0 by omega)
    have h2 := Int.emod_lt_of_pos rounds (show (0 : Int) < (r : Int) + 1 by omega)
    exact ⟨(rounds % ((r : Int) + 1)).toNat, by omega, by omega⟩
  obtain ⟨J, D, ho, hrg, hh, hoc, hst, I0⟩ := CInv.fresh (n := 2 + r) (ring := r) hr1 (by omega) (Nat.le_refl _) (by omega) (l := [0, 1]) (f := fAB) rfl
  have hcast : ((2 + r : Nat) : Int) = 2 + (r : Int) := by omega
  rw [hcast] at ho hoc
  repeat (first | refine GD ?_ | refine NW fun _ => ?_)
  refine WL.step rfl (OP.callRO rfl rfl cawake_ro (fun _ _ => trivial) rfl rfl ?_)
  repeat (first | refine GD ?_ | refine NW fun _ => ?_)
  rw [hr]
  refine WL.step rfl (OP.callRT rfl rfl (dnew_rt (2 + (r : Int))) (fun _ _ => trivial) rfl rfl ?_)
  rintro _ _ ⟨q, rfl, rfl⟩
  repeat (first | refine GD ?_ | refine NW fun _ => ?_)
  rename_i bv
  have hop := copen_ok q r (some ⟨bv, 0, none⟩, 2, 2) (Dsk.new (2 + (r : Int))) (ownS (some ⟨bv, 0, none⟩) 2 2 3 1 [vI 0, vI 1]) (up_ownS _ _ _ _ _ _) [0, 1] (fun _ h => read_of_own h) (show (2 : Nat) < 1000000 by decide) (Dsk.new_ok _) (by show (0 : Nat) < 10000; decide) (by omega) (fun J2 D2 h => by
    rw [ho] at h; cases h; exact ⟨I0.jr (by omega), I0.J.right⟩)
  unfold OpenCo at hop
  rw [hoc] at hop
  refine WL.step rfl (OP.call (pre := [dsk q (Dsk.new (2 + (r : Int))), ownS (some ⟨bv, 0, none⟩) 2 2 3 1 [vI 0, vI 1]]) rfl rfl hop PS rfl rfl ?_)
  rintro _ _ ⟨p, g, rfl, rfl⟩
  generalize hVV : ownS (some ⟨bv, 0, none⟩) 2 2 3 1 [vI 0, vI 1] = V at *
  have hVu : Up V := hVV ▸ up_ownS _ _ _ _ _ _
  have hVr : ∀ h, V h → readS (some ⟨bv, 0, none⟩) 2 1 ([0, 1].map vI) h := hVV ▸ (fun _ h => read_of_own h)
  generalize hfv : ((some ⟨bv, 0, none⟩, 2, 2) : Fst) = fv at *
  have hVr2 : ∀ h, V h → readS fv.1 fv.2.1 1 ([0, 1].map vI) h := by rw [← hfv]; exact hVr
  have hfn : fv.2.1 < 1000000 := by rw [← hfv]; exact (by decide : (2 : Nat) < 1000000)
  clear hVV hVr hfv
  repeat (first | refine GD ?_ | refine NW fun _ => ?_)
  rw [hN]
  refine WC.loop (σ := Nat × Crd) (fun s => s.1 ≤ N ∧ CInv s.2 (3 + 4 * s.1) ∧ s.2.last = s.1 ∧ s.2.ch = [] ∧ s.2.f = fAB ∧ s.2.R.number = 0 ∧ s.2.J.ring = r ∧ s.2.J.held.length = s.1)
    (fun s => [(5, .val (.int .i64 r)), (6, .val (.pointer (some ⟨p, 0, none⟩))), (8, .val (.int .i64 N)), (46, .val (.int .i64 N)), (47, .val (.int .i64 s.1))])
    (fun s => [crdA p q g fv s.2, dsk q s.2.D, V, A]) (fun s => N - s.1) (0, ⟨J, D, fAB, [], rnd0, 0, 0⟩) ⟨Nat.zero_le _, I0, rfl, rfl, rfl, rfl, hrg, by rw [hh]; rfl⟩ ⟨rfl, rfl, rfl, rfl, rfl, trivial⟩ II ?_
  rintro ⟨i, C⟩ ⟨hi, I, hl, hch, hf, hnum, hring, hheld⟩
  dsimp only at hi I hl hch hf hnum hring hheld ⊢
  have hmk : C.mem (C.last + 1) = [0, 1] := by unfold Crd.mem; rw [hf, hch]; rfl
  have hmne : C.mem (C.last + 1) ≠ [] := by rw [hmk]; decide
  by_cases hlt : i < N
  · have hcb := cbegin_ok p q g fv C _ I (by omega)
    unfold BeginCo at hcb
    obtain ⟨l, C1, hbg⟩ := I.beginOk (by omega) hnum hmne (by omega)
    rw [hbg] at hcb
    obtain ⟨I1, _, hl1, hch1, hf1, _, _, hr1', hh1, _, _, _, _⟩ := I.begin (by omega) hbg
    have hcr := ccrash_ok p q g fv C1 _ I1 (by omega) 0 (by decide) V hVu [0, 1] hVr2 hfn (by rw [hf1, hf]; rfl)
    repeat (first | refine GD ?_ | refine NW fun _ => ?_)
    refine WL.step rfl (OP.call (pre := [crdA p q g _ _, dsk q C.D]) rfl rfl hcb PS rfl rfl ?_)
    rintro _ _ ⟨_, _, ⟨xa, xc, rfl, rfl⟩, rfl, rfl⟩
    repeat (first | refine GD ?_ | refine NW fun _ => ?_)
    refine WL.guardT rfl rfl rfl rfl (OP.call (pre := [crdA p q g _ C1, dsk q C1.D, V]) rfl rfl hcr PS rfl rfl ?_)
    rintro _ _ ⟨rfl, J', D', _, er, eh, _, I2, rfl⟩
    repeat (first | refine GD ?_ | refine NW fun _ => ?_)
    exact ⟨(i + 1, { C1 with J := J', D := D', R := rnd0, marked := 0 }), ⟨by dsimp only; omega, I2.mono (by dsimp only; omega), by dsimp only; omega, hch1.trans hch, hf1.trans hf, rfl, er.trans (hr1'.trans hring), by dsimp only; rw [eh, hh1, hheld]⟩, by dsimp only; omega, ⟨rfl, rfl, rfl, rfl, rfl, trivial⟩, II⟩
  have hiN : i = N := by omega
  subst hiN
  clear hlt hi hN
  have hjl := I.J.len
  -- the change of volume 2, where there is room
  have hpn : putM C.f C.ch (C.last + 1, 2, !true) = none := by
    unfold putM
    rw [hf, hch]
    dsimp only
    rw [if_neg (by decide), if_neg (show ¬ C.last + 1 ≤ lastM [] by show ¬ C.last + 1 ≤ 0; omega), if_neg (show ¬ 1152921504606846975 < C.last + 1 by omega)]
    rfl
  have hok : i < r → ∃ C1, changeC C 2 true = .ok C1 := fun hir => by
    have hrt := I.right (by omega) (show C.J.held.length ≠ C.J.ring by omega) (r := chgR 2 true) (.inr ⟨rfl, by decide, by decide, rfl⟩)
    unfold changeC
    rw [if_neg (by omega), hpn, hrt]
    exact ⟨_, rfl⟩
  have hcg := cchg_ok p q g fv C _ 2 true I (by omega)
  unfold ChangeCo at hcg
  repeat (first | refine GD ?_ | refine NW fun _ => ?_)
  refine WC.loop (σ := Nat × Nat × Crd) (fun s => (s.1 = 0 ∧ s.2.1 = 0 ∧ s.2.2 = C) ∨ (i < r ∧ changeC C 2 true = .ok s.2.2 ∧ s.2.1 = 1 ∧ (s.1 = 1 ∨ (s.1 = 2 ∧ i + 1 < r))))
    (fun s => [(5, .val (.int .i64 r)), (6, .val (.pointer (some ⟨p, 0, none⟩))), (8, .val (.int .i64 i)), (12, .val (.int .i64 s.2.1)), (13, .val (.int .i64 s.1))])
    (fun s => [crdA p q g fv s.2.2, dsk q s.2.2.D, V, A]) (fun s => 2 - s.1) (0, 0, C) (.inl ⟨rfl, rfl, rfl⟩) ⟨rfl, rfl, rfl, rfl, rfl, trivial⟩ (Imp.refl _) ?_
  rintro ⟨j, d, C2⟩ hs
  dsimp only at hs ⊢
  rcases hs with ⟨rfl, rfl, rfl⟩ | ⟨hir, hcd, rfl, hj⟩
  · by_cases hir : i < r
    · obtain ⟨C1, hcd⟩ := hok hir
      rw [hcd] at hcg
      repeat (first | refine GD ?_ | refine NW fun _ => ?_)
      refine WL.step rfl (OP.call (pre := [crdA p q g _ C2, dsk q C2.D]) rfl rfl hcg PS rfl rfl ?_)
      rintro _ _ ⟨rfl, rfl⟩
      repeat (first | refine GD ?_ | refine NW fun _ => ?_)
      exact ⟨(1, 1, C1), .inr ⟨hir, hcd, rfl, .inl rfl⟩, by dsimp only; omega, ⟨rfl, rfl, rfl, rfl, rfl, trivial⟩, II⟩
    · have hfull : C2.J.held.length = C2.J.ring := by omega
      repeat (first | refine GD ?_ | refine NW fun _ => ?_)
      have hls := glast_ro g C2.f C2.ch I.f4 I.few
      have hnw := gnow_rt g C2.f C2.ch I.f4 I.vols I.few
      have hn4 : (listM (after C2.f C2.ch)).length ≤ 4 := by
        have := listM_len (after C2.f C2.ch)
        rw [after_length, I.f4] at this
        exact this
      generalize listM (after C2.f C2.ch) = now at *
      generalize hlc : lastM C2.ch = lc at *
      have hcbF := cbegin_ok p q g fv C2 _ I (by omega)
      unfold BeginCo at hcbF
      rw [show beginC C2 = .error ((coordT, C2.last + 1) :: appEr C2.J 6, 6) by
        unfold beginC
        rw [if_neg (not_not_intro hnum), if_neg hmne, appendM_full hfull]] at hcbF
      have hcgF := cchg_ok p q g fv C2 _ 3 true I (by omega)
      unfold ChangeCo at hcgF
      rw [show changeC C2 3 true = .error ([(coordT, 3)], 6) by
        unfold changeC
        rw [if_pos hfull]] at hcgF
      repeat (first | refine GD ?_ | refine NW fun _ => ?_)
      refine WL.step rfl (OP.callRO rfl rfl (cgroup_ro p q g fv C2) (Ent.at (up_crdA _ _ _ _ _) MM) rfl rfl ?_)
      refine WL.step rfl (OP.callRO rfl rfl hls (crd_grp (C := C2) (p := p) (q := q) (fv := fv) MM) rfl rfl ?_)
      repeat (first | refine GD ?_ | refine NW fun _ => ?_)
      refine WL.step rfl (OP.callRO rfl rfl (cgroup_ro p q g fv C2) (Ent.at (up_crdA _ _ _ _ _) MM) rfl rfl ?_)
      refine WL.step rfl (OP.callRT rfl rfl hnw (crd_grp (C := C2) (p := p) (q := q) (fv := fv) MM) rfl rfl ?_)
      rintro _ _ ⟨aN, cN, rfl, rfl⟩
      repeat (first | refine GD ?_ | refine NW fun _ => ?_)
      refine WL.step rfl (OP.call (pre := [crdA p q g _ C2, dsk q C2.D]) rfl rfl hcbF PS rfl rfl ?_)
      rintro _ _ ⟨e, E, hE, rfl, rfl⟩
      obtain ⟨y, ch, hc1, rfl, rfl⟩ := isEr_one hE (by simp)
      have his := isC_ro (y :: ch) 6 6 (by decide)
      dsimp only [valOf] at his
      repeat (first | refine GD ?_ | refine NW fun _ => ?_)
      refine WL.step rfl (OP.call (pre := [crdA p q g _ C2, dsk q C2.D]) rfl rfl hcgF PS rfl rfl ?_)
      rintro e2 _ ⟨E2, hE2, rfl⟩
      obtain ⟨y2, ch2, hc2, rfl, rfl⟩ := isEr_one hE2 (by simp)
      have his2 := isC_ro (y2 :: ch2) 6 6 (by decide)
      dsimp only [valOf] at his2
      repeat (first | refine GD ?_ | refine NW fun _ => ?_)
      refine WL.step rfl (OP.callRO rfl rfl (crounds_ro p q g fv C2) (Ent.at (up_crdA _ _ _ _ _) MM) rfl rfl ?_)
      rw [hnum, hl]
      repeat (first | refine GD ?_ | refine NW fun _ => ?_)
      refine WL.guardT rfl rfl rfl rfl (OP.callRO rfl rfl (cgroup_ro p q g fv C2) (Ent.at (up_crdA _ _ _ _ _) MM) rfl rfl ?_)
      refine WL.guardT rfl rfl rfl rfl (OP.callRO rfl rfl hls (crd_grp (C := C2) (p := p) (q := q) (fv := fv) MM) rfl rfl ?_)
      repeat (first | refine GD ?_ | refine NW fun _ => ?_)
      refine WL.guardT rfl rfl rfl rfl (OP.callRO rfl rfl (cgroup_ro p q g fv C2) (Ent.at (up_crdA _ _ _ _ _) MM) rfl rfl ?_)
      refine WL.guardT rfl rfl rfl rfl (OP.callRT rfl rfl hnw (crd_grp (C := C2) (p := p) (q := q) (fv := fv) MM) rfl rfl ?_)
      rintro _ _ ⟨aN2, cN2, rfl, rfl⟩
      repeat (first | refine GD ?_ | refine NW fun _ => ?_)
      refine WL.guardT rfl rfl rfl rfl (OP.callRO rfl rfl his (Ent.at (up_chainR _ _) MM) rfl rfl ?_)
      repeat (first | refine GD ?_ | refine NW fun _ => ?_)
      refine WL.guardT rfl rfl rfl rfl (OP.callRO rfl rfl his2 (Ent.at (up_chainR _ _) MM) rfl rfl ?_)
      repeat (first | refine GD ?_ | refine NW fun _ => ?_)
      exact ret1 rfl ⟨rfl, MM⟩
  · obtain ⟨I2, hl2, hf2, hR2, _, _, hch2, hr2, hh2⟩ := I.change (by omega) hcd
    have hnum2 : C2.R.number = 0 := by rw [hR2]; exact hnum
    have hlast2 : C2.last = i := by rw [hl2]; exact hl
    rcases hj with rfl | ⟨rfl, hir2⟩
    · by_cases hir2 : i + 1 < r
      · have hcd2 : changeC C2 2 true = .error ([(coordT, 2), (memT, 2)], 10) := by
          unfold changeC
          rw [if_neg (by omega), show putM C2.f C2.ch (C2.last + 1, 2, !true) = some 10 by
            unfold putM
            rw [hch2, hch]
            dsimp only
            rw [if_neg (by decide), if_pos]
            show C2.last + 1 ≤ C.last + 1
            omega]
        have hcg2 := cchg_ok p q g fv C2 _ 2 true I2 (by omega)
        unfold ChangeCo at hcg2
        rw [hcd2] at hcg2
        repeat (first | refine GD ?_ | refine NW fun _ => ?_)
        refine WL.step rfl (OP.call (pre := [crdA p q g _ C2, dsk q C2.D]) rfl rfl hcg2 PS rfl rfl ?_)
        rintro e _ ⟨E, hE, rfl⟩
        obtain ⟨y, ch, hc1, rfl, rfl⟩ := isEr_one hE (by simp)
        repeat (first | refine GD ?_ | refine NW fun _ => ?_)
        exact ⟨(2, 1, C2), .inr ⟨hir, hcd, rfl, .inr ⟨rfl, hir2⟩⟩, by dsimp only; omega, ⟨rfl, rfl, rfl, rfl, rfl, trivial⟩, II⟩
      · have hfull : C2.J.held.length = C2.J.ring := by omega
        have hmne2 : C2.mem (C2.last + 1) ≠ [] := by
          have : C2.mem (C2.last + 1) = [0, 1, 2] := by
            unfold Crd.mem
            rw [hf2, hf, hch2, hch, hl2]
            show listM (after fAB (List.take (cnt (C.last + 1) [(C.last + 1, 2, false)]) [(C.last + 1, 2, false)])) = _
            rw [show cnt (C.last + 1) [(C.last + 1, 2, false)] = 1 by unfold cnt; simp]
            rfl
          rw [this]; decide
        have hB2 : 3 + 4 * (i : Int) + 2 ≤ 1000 := by omega
        repeat (first | refine GD ?_ | refine NW fun _ => ?_)
        have hls := glast_ro g C2.f C2.ch I2.f4 I2.few
        have hnw := gnow_rt g C2.f C2.ch I2.f4 I2.vols I2.few
        have hn4 : (listM (after C2.f C2.ch)).length ≤ 4 := by
          have := listM_len (after C2.f C2.ch)
          rw [after_length, I2.f4] at this
          exact this
        generalize listM (after C2.f C2.ch) = now at *
        generalize hlc : lastM C2.ch = lc at *
        have hcbF := cbegin_ok p q g fv C2 _ I2 (by omega)
        unfold BeginCo at hcbF
        rw [show beginC C2 = .error ((coordT, C2.last + 1) :: appEr C2.J 6, 6) by
          unfold beginC
          rw [if_neg (not_not_intro hnum2), if_neg hmne2, appendM_full hfull]] at hcbF
        have hcgF := cchg_ok p q g fv C2 _ 3 true I2 (by omega)
        unfold ChangeCo at hcgF
        rw [show changeC C2 3 true = .error ([(coordT, 3)], 6) by
          unfold changeC
          rw [if_pos hfull]] at hcgF
        repeat (first | refine GD ?_ | refine NW fun _ => ?_)
        refine WL.step rfl (OP.callRO rfl rfl (cgroup_ro p q g fv C2) (Ent.at (up_crdA _ _ _ _ _) MM) rfl rfl ?_)
        refine WL.step rfl (OP.callRO rfl rfl hls (crd_grp (C := C2) (p := p) (q := q) (fv := fv) MM) rfl rfl ?_)
        repeat (first | refine GD ?_ | refine NW fun _ => ?_)
        refine WL.step rfl (OP.callRO rfl rfl (cgroup_ro p q g fv C2) (Ent.at (up_crdA _ _ _ _ _) MM) rfl rfl ?_)
        refine WL.step rfl (OP.callRT rfl rfl hnw (crd_grp (C := C2) (p := p) (q := q) (fv := fv) MM) rfl rfl ?_)
        rintro _ _ ⟨aN, cN, rfl, rfl⟩
        repeat (first | refine GD ?_ | refine NW fun _ => ?_)
        refine WL.step rfl (OP.call (pre := [crdA p q g _ C2, dsk q C2.D]) rfl rfl hcbF PS rfl rfl ?_)
        rintro _ _ ⟨e, E, hE, rfl, rfl⟩
        obtain ⟨y, ch, hc1, rfl, rfl⟩ := isEr_one hE (by simp)
        have his := isC_ro (y :: ch) 6 6 (by decide)
        dsimp only [valOf] at his
        repeat (first | refine GD ?_ | refine NW fun _ => ?_)
        refine WL.step rfl (OP.call (pre := [crdA p q g _ C2, dsk q C2.D]) rfl rfl hcgF PS rfl rfl ?_)
        rintro e2 _ ⟨E2, hE2, rfl⟩
        obtain ⟨y2, ch2, hc2, rfl, rfl⟩ := isEr_one hE2 (by simp)
        have his2 := isC_ro (y2 :: ch2) 6 6 (by decide)
        dsimp only [valOf] at his2
        repeat (first | refine GD ?_ | refine NW fun _ => ?_)
        refine WL.step rfl (OP.callRO rfl rfl (crounds_ro p q g fv C2) (Ent.at (up_crdA _ _ _ _ _) MM) rfl rfl ?_)
        rw [hnum2, hlast2]
        repeat (first | refine GD ?_ | refine NW fun _ => ?_)
        refine WL.guardT rfl rfl rfl rfl (OP.callRO rfl rfl (cgroup_ro p q g fv C2) (Ent.at (up_crdA _ _ _ _ _) MM) rfl rfl ?_)
        refine WL.guardT rfl rfl rfl rfl (OP.callRO rfl rfl hls (crd_grp (C := C2) (p := p) (q := q) (fv := fv) MM) rfl rfl ?_)
        repeat (first | refine GD ?_ | refine NW fun _ => ?_)
        refine WL.guardT rfl rfl rfl rfl (OP.callRO rfl rfl (cgroup_ro p q g fv C2) (Ent.at (up_crdA _ _ _ _ _) MM) rfl rfl ?_)
        refine WL.guardT rfl rfl rfl rfl (OP.callRT rfl rfl hnw (crd_grp (C := C2) (p := p) (q := q) (fv := fv) MM) rfl rfl ?_)
        rintro _ _ ⟨aN2, cN2, rfl, rfl⟩
        repeat (first | refine GD ?_ | refine NW fun _ => ?_)
        refine WL.guardT rfl rfl rfl rfl (OP.callRO rfl rfl his (Ent.at (up_chainR _ _) MM) rfl rfl ?_)
        repeat (first | refine GD ?_ | refine NW fun _ => ?_)
        refine WL.guardT rfl rfl rfl rfl (OP.callRO rfl rfl his2 (Ent.at (up_chainR _ _) MM) rfl rfl ?_)
        repeat (first | refine GD ?_ | refine NW fun _ => ?_)
        exact ret1 rfl ⟨rfl, MM⟩
    · repeat (first | refine GD ?_ | refine NW fun _ => ?_)
      exact ret1 rfl ⟨rfl, MM⟩
end Go.Proofs.YtacgheafbkfciaaGreatDoor
namespace Go.Proofs.YtacgheafbkfciaaGreatDoor
open Go Go.GL Go.ChangeShapes Go.WideShapes Go.ChangeAt Go.RowKit
open Go.ChangeMaps (open_string shut_string)
set_option linter.unusedVariables false

theorem ownCoordFull : ownKnob Tryz.prog.godebug = none := by kernel_rfl
theorem laidOutCoordFull : laidOutB Tryz.prog = true := by kernel_rfl
theorem etCoordFull : Tryz.prog.globalNamed "errors.errorType" = some 0 := by kernel_rfl
theorem rtCoordFull : (Tryz.prog.cutTypes.find? (·.1 == "internal/reflectlite.rtype")).map (·.2) = some 210 := by kernel_rfl
theorem oneRowCoordFull : ((List.range 292).filter fun t => Tryz.prog.rowNamed t [101, 114, 114, 111, 114]) = [25] := by kernel_rfl
theorem sizeCoordFull : Tryz.prog.types.size = 292 := by kernel_rfl
theorem handleCoordFull {W : World} (h : laidMetH Tryz.prog [("errors.errorType", Rows.laid_errors_errorType)] W) : W.cell? ⟨0, 0, none⟩ = some errT := by
  have h' : laidMet Tryz.prog [] W ∧ handlesMet Tryz.prog [("errors.errorType", Rows.laid_errors_errorType)] W := h
  obtain ⟨name, u, ty, e1, e2, e3, e4, e5⟩ := h'.2 _ (List.mem_singleton.2 rfl)
  have en : name = [101, 114, 114, 111, 114] := (Option.some.inj e1).symm
  subst en
  obtain rfl := Option.some.inj (rtCoordFull.symm.trans e2)
  have hm : ty ∈ (List.range 292).filter fun t => Tryz.prog.rowNamed t [101, 114, 114, 111, 114] := List.mem_filter.2 ⟨List.mem_range.2 (by rw [← sizeCoordFull]; exact e3), e4⟩
  rw [oneRowCoordFull] at hm
  obtain rfl := List.mem_singleton.1 hm
  have hh : typeHandle Tryz.prog 25 = .pointer (some ⟨1, 25, none⟩) := by kernel_rfl
  rw [hh] at e5
  have := World.var?_cell etCoordFull e5 0
  simpa [errT, rt, hd] using this
theorem cellAt_of {w : World} {b off : Nat} {v : Value} (h : w.cell? ⟨b, off, none⟩ = some v) : cellAt b off v (hpOf w) := by
  unfold World.cell? at h
  split at h
  · rename_i c T fr hb
    exact ⟨c, T, fr, hpOf_obj.2 hb, by simpa using h⟩
  · cases h
noncomputable def laidWorld (os : Os) : World :=
  let w0 := World.holding Tryz.prog os ⟨#[], #[], []⟩
  { w0 with heap := w0.heap.modify 0 fun
      | .cells _ t frozen => .cells #[.iface 210 (.agg #[.pointer (some ⟨1, 25, none⟩)])] t frozen
      | o => o }
theorem laidWorld_met (os : Os) (args : Array Value) : laidMetH Tryz.prog [("errors.errorType", Rows.laid_errors_errorType)] ((laidWorld os).forCall (fun _ _ => 0) ⟨#[], args, []⟩).memory :=
  laidMetH_of_parts (laidMet_nil _ _) (by kernel_rfl)
set_option maxRecDepth 100000 in
theorem liftedCoordFull (os : Os) (started : os.Started) (H : Type) (enc : TypeId × Value → H) :
    ReturnsInHanded {} Tryz.checked os 3 .any (fun w args => (Rows.coordFullSpec.pre enc Tryz.prog Tryz.f3 [] false w args ∧ laidMetH Tryz.prog [("errors.errorType", Rows.laid_errors_errorType)] w) ∧ sizedMet enc Tryz.prog Tryz.f3 (OpenSpec.ofChange Rows.coordFullSpec) false w args)
      (Rows.coordFullSpec.post enc Tryz.prog Tryz.f3 false true false false) := by
  refine returnsInHanded_of_change_and (C := Tryz.checked) (X := fun w _ => laidMetH Tryz.prog [("errors.errorType", Rows.laid_errors_errorType)] w) (fun _ _ _ hh h => h.of_heap hh) ownCoordFull started (by kernel_rfl) Tryz.func3
    (ChangeSpec.witness_at (enc := enc) (C := Tryz.checked) (os := os) (X := fun w _ => laidMetH Tryz.prog [("errors.errorType", Rows.laid_errors_errorType)] w) false (laidWorld os) #[.int .u8 0, .int .u8 0] 8 rfl (by kernel_rfl) (by kernel_rfl) (by kernel_rfl) (by kernel_rfl) (by kernel_rfl) (laidWorld_met os _)) ?_
  intro W base args ds gs before hval0 hW _ _ hL _
  have hval : ∀ (j : Nat) t v, Tryz.f3.params[j]? = some t → args[j]? = some v → Value.okWide Tryz.prog W .any base t v := hval0
  have hW' := hW
  obtain ⟨p, q, hA0, hV0, rfl, hfz, hnd⟩ := hW
  have hV : DataW.TrodVars enc Tryz.prog W (fun _ => true) [] gs q := hV0
  have hE := cellAt_of (handleCoordFull hL)
  have hA : DataW.TrodAll enc Tryz.prog W 0 (fun _ => true) true Tryz.f3.params.toList args.toList ds p := hA0
  rw [Tryz.params3] at hA hval
  obtain ⟨v0, vs0, d0, ds0, p0, q0, hargs, rfl, rfl, h0, r0⟩ := trodAll_cons hA
  obtain ⟨v1, vs1, d1, ds1, p1, q1, rfl, rfl, rfl, h1, r1⟩ := trodAll_cons r0
  obtain ⟨rfl, rfl, rfl⟩ := trodAll_nil r1
  obtain rfl : args = #[v0, v1] := by cases args; simp_all
  obtain ⟨rfl, rfl⟩ : gs = [] ∧ q = [] := by
    cases gs with
    | nil => exact ⟨rfl, hV⟩
    | cons g r => exact absurd hV (by intro h; cases h)
  have k0 := h0
  obtain ⟨a0, rfl, _, _, w0⟩ := open_int Tryz.underlying5 (hval 0 5 v0 rfl rfl) h0
  have k1 := h1
  obtain ⟨a1, rfl, _, _, w1⟩ := open_int Tryz.underlying5 (hval 1 5 v1 rfl rfl) h1
  clear hA0 hval0
  refine ((cfull_ro a0 a1 (wf_u8 w0) (wf_u8 w1)).calls W trivial).mono fun e W' ⟨he, ext⟩ => ?_
  subst he
  exact ⟨_, rfl, _, _, _, [], _, [], hW', trodAll_mk1 (shut_bool Tryz.underlying4 _), (trodAll_cons_mk (GL.Ext.trod laidOutCoordFull (by kernel_rfl) (of_decide_eq_true (by kernel_rfl)) k0 ext) (trodAll_cons_mk (GL.Ext.trod laidOutCoordFull (by kernel_rfl) (of_decide_eq_true (by kernel_rfl)) k1 ext) trodAll_mk0)), rfl, ext.keptBut _, fun h => by cases h⟩
theorem overCoordFull : Rows.coordFullRow.holds Tryz.pinned (OpenSpec.ofChange Rows.coordFullSpec) :=
  OpenClaim.holds_of_wide 3 Tryz.f3 rfl rfl rfl rfl rfl rfl rfl ⟨rfl, rfl, rfl, rfl, rfl⟩ rfl rfl rfl rfl rfl (by kernel_rfl) Tryz.func3 (by kernel_rfl)
    (of_decide_eq_true (by kernel_rfl)) (by unfold Func.isWrapper; first | (rw [if_pos (by decide +kernel)]; kernel_rfl) | (rw [if_neg (by decide +kernel)]; exact ⟨rfl, rfl⟩))
    (fun os started H enc _ => liftedCoordFull os started H enc)
theorem coordFull_holds : Rows.CoordFullCardSaid :=
  Claim7.holds_tied_plain_at .later [] [.handle] true (true, "2a5c7e5f3b750eb576d77ceb39ddbca393adcc0aca4bd66b40c34330f929cff8") true
    overCoordFull (fun _ h => by cases h) (by kernel_rfl) (fun _ h => by cases h) coordFull_row_tie rfl ⟨rfl, rfl⟩ (by kernel_rfl) rfl
    (fun f fn hf hfn => by
      obtain rfl : f = 3 := Option.some.inj ((show Tryz.prog.funcNamed Rows.coordFullRow.func = some 3 by kernel_rfl).symm.trans hf) |>.symm
      obtain rfl : fn = Tryz.f3 := (Option.some.inj (Tryz.func3.symm.trans hfn)).symm
      exact ⟨by kernel_rfl, fun j t ht => by
        rw [Tryz.params3] at ht
        match j, ht with
        | 0, ht => obtain rfl : 5 = t := by simpa using ht
                   exact (show Tryz.prog.wantsStandIn 5 = false by kernel_rfl)
        | 1, ht => obtain rfl : 5 = t := by simpa using ht
                   exact (show Tryz.prog.wantsStandIn 5 = false by kernel_rfl)
        | (k + 2), ht => simp at ht⟩)
    (by kernel_rfl)
end Go.Proofs.YtacgheafbkfciaaGreatDoor
