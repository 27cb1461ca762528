/-
  The law CoordStale holds: whatever the input, the Go function returns true, and each argument reads as it did. Conditions: none beyond the statement's own.
-/
import Derived.Test.YtacgheafbkfciaaGreatDoorZCZ4
import Derived.Test.YtacgheafbkfciaaGreatDoorZCZ12
import Derived.Test.YtacgheafbkfciaaGreatDoorZCZ7
import Derived.Test.YtacgheafbkfciaaGreatDoorZCZ3
import Derived.Test.YtacgheafbkfciaaGreatDoorRows
import Derived.Test.YtacgheafbkfciaaGreatDoorTie
import Derived.Test.YtacgheafbkfciaaGreatDoorCards
import Derived.ChangeSame
import Derived.ChangeVars
import Derived.JoinedOf
import Derived.RowKit
import Derived.RowKitTokens
import Derived.LaidLaws
import Derived.LaidHandle
import Derived.Stop.Joined
import Derived.SevenTiedAt
/- Contracts of functions of the given program, and plain laws on what they compute: parts of the proofs of laws. -/

namespace Go.Proofs.YtacgheafbkfciaaGreatDoor
open Go Go.GL

def FaultR (b : Nat) (op : ByteArray) (at_ c : Int) : Assn := fun h => ErrT h ∧ cellsAt b 0 (faultCells op at_ c) h
theorem up_FaultR (b : Nat) (op : ByteArray) (at_ c : Int) : Up (FaultR b op at_ c) := up_and up_ErrT (up_cellsAt _ _ _)
set_option maxRecDepth 10000 in
theorem code_nil : RO G 49 [.nilIface] (fun _ => True) (.int .i64 0) := by
  refine RO.enter Tryz.func49 rfl (by decide) rfl Tryz.ntmps49 rfl (fun A hu hA => ?_) (fun _ _ _ h => h)
  repeat (first | refine GO ?_ | refine NW fun _ => ?_)
  refine WL.step rfl (OP.callRO rfl rfl (as_nil _) (fun _ _ => trivial) rfl rfl ?_)
  repeat (first | refine GO ?_ | refine NW fun _ => ?_)
  exact ret1 rfl ⟨rfl, MM⟩
set_option maxRecDepth 10000 in
theorem code_fault (b : Nat) (op : ByteArray) (at_ c : Int) : RO G 49 [.iface 185 (.pointer (some ⟨b, 0, none⟩))] (FaultR b op at_ c) (.int .i64 c) := by
  refine RO.enter Tryz.func49 rfl (by decide) rfl Tryz.ntmps49 rfl (fun A hu hA => ?_) (up_FaultR _ _ _ _)
  repeat (first | refine GO ?_ | refine NW fun _ => ?_)
  rename_i p
  refine WL.step rfl (OP.call (pre := [blk p [.int .i64 0] 44, A]) rfl rfl (as_code b p op at_ c (.int .i64 0) A hu (fun h x => (hA h x).1) (fun h x => (hA h x).2)) PS rfl rfl ?_)
  rintro _ _ ⟨rfl, rfl⟩
  repeat (first | refine GO ?_ | refine NW fun _ => ?_)
  exact ret1 rfl ⟨rfl, MM⟩
def Ptrs (l : List Value) (v : Value) (E : List Assn) : Prop := ∃ a cap, v = .slice a l.length cap ∧ E = [ownS a l.length cap 185 1 l]
set_option maxRecDepth 10000 in
theorem faults_nil : RT G 94 [.nilIface] (fun _ => True) (fun v E => v = .slice none 0 0 ∧ E = []) := by
  refine RT.enter Tryz.func94 rfl (by decide) rfl Tryz.ntmps94 rfl (fun A hu hA => ?_)
  repeat (first | refine GO ?_ | refine NW fun _ => ?_)
  rename_i p
  refine WC.loop (σ := Unit) (fun _ => True) (fun _ => [(0, .val .nilIface), (3, .val (.slice none 0 0)), (4, .val (.pointer (some ⟨p, 0, none⟩)))]) (fun _ => [A]) (fun _ => 0) () trivial ⟨rfl, rfl, rfl, trivial⟩ II ?_
  rintro _ _
  repeat (first | refine GO ?_ | refine NW fun _ => ?_)
  refine WL.step rfl (OP.callRO rfl rfl (as_nil _) (fun _ _ => trivial) rfl rfl ?_)
  repeat (first | refine GO ?_ | refine NW fun _ => ?_)
  exact ret1 rfl ⟨[], ⟨rfl, rfl⟩, II⟩
set_option maxHeartbeats 1000000 in
set_option maxRecDepth 10000 in
theorem faults_one (b : Nat) (op : ByteArray) (at_ c : Int) : RT G 94 [.iface 185 (.pointer (some ⟨b, 0, none⟩))] (FaultR b op at_ c) (Ptrs [.pointer (some ⟨b, 0, none⟩)]) := by
  refine RT.enter Tryz.func94 rfl (by decide) rfl Tryz.ntmps94 rfl (fun A hu hA => ?_)
  repeat (first | refine GO ?_ | refine NW fun _ => ?_)
  rename_i p
  refine WC.imp (Imp.nilS 185 1) ?_
  refine WC.loop (σ := Bool × Option Addr × Nat) (fun s => s.1 = true → s.2.1 = none ∧ s.2.2 = 0) (fun s => match s.1 with
      | true => [(0, .val (.iface 185 (.pointer (some ⟨b, 0, none⟩)))), (3, .val (.slice none 0 0)), (4, .val (.pointer (some ⟨p, 0, none⟩)))]
      | false => [(0, .val (.iface 44 (.int .i64 c))), (3, .val (.slice s.2.1 1 s.2.2)), (4, .val (.pointer (some ⟨p, 0, none⟩)))])
    (fun s => match s.1 with
      | true => [blk p [.pointer none] 185, ownS none 0 0 185 1 [], A]
      | false => [blk p [.pointer (some ⟨b, 0, none⟩)] 185, ownS s.2.1 1 s.2.2 185 1 [.pointer (some ⟨b, 0, none⟩)], A])
    (fun s => match s.1 with | true => 1 | false => 0) (true, none, 0) (fun _ => ⟨rfl, rfl⟩) ⟨rfl, rfl, rfl, trivial⟩ II ?_
  rintro ⟨s, a, cap⟩ hs
  cases s
  · dsimp only at hs ⊢
    repeat (first | refine GO ?_ | refine NW fun _ => ?_)
    refine WL.step rfl (OP.call (pre := [blk p [.pointer (some ⟨b, 0, none⟩)] 185, A]) rfl rfl (as_faultsN p c _ A hu (fun h x => (hA h x).1)) PS rfl rfl ?_)
    rintro _ _ ⟨rfl, rfl⟩
    repeat (first | refine GO ?_ | refine NW fun _ => ?_)
    exact ret1 rfl ⟨[_], ⟨a, cap, rfl, rfl⟩, II⟩
  · dsimp only at hs ⊢
    repeat (first | refine GO ?_ | refine NW fun _ => ?_)
    refine WL.step rfl (OP.call (pre := [blk p [.pointer none] 185, A]) rfl rfl (as_faults b p _ A hu (fun h x => (hA h x).1)) PS rfl rfl ?_)
    rintro _ _ ⟨rfl, rfl⟩
    repeat (first | refine GO ?_ | refine NW fun _ => ?_)
    refine WL.step rfl (OP.append rfl rfl rfl rfl rfl rfl rfl rfl rfl P1 (Ent.own MM) rfl (by decide) (by decide) rfl rfl (fun a2 cap2 => ?_))
    repeat (first | refine GO ?_ | refine NW fun _ => ?_)
    refine WL.step rfl (OP.load1 (v := .iface 44 (.int .i64 c)) rfl rfl rfl rfl (Ent.mem (A := A) MM hu (fun h x => cellsAt_one (i := 2) (hA h x).2 rfl)) rfl rfl ?_)
    repeat (first | refine GO ?_ | refine NW fun _ => ?_)
    exact ⟨(false, a2, cap2), (fun h => nomatch h), Nat.zero_lt_one, ⟨rfl, rfl, rfl, trivial⟩, II⟩
set_option maxHeartbeats 1000000 in
set_option maxRecDepth 10000 in
theorem first_nil (op : ByteArray) : RO G 55 [.nilIface, .string op] (fun _ => True) (.tuple #[.int .i64 0, .bool false]) := by
  refine RO.enter Tryz.func55 rfl (by decide) rfl Tryz.ntmps55 rfl (fun A hu hA => ?_) (fun _ _ _ h => h)
  repeat (first | refine GO ?_ | refine NW fun _ => ?_)
  refine WL.step rfl (OP.callRT rfl rfl faults_nil (fun _ _ => trivial) rfl rfl ?_)
  rintro v E ⟨rfl, rfl⟩
  repeat (first | refine GO ?_ | refine NW fun _ => ?_)
  refine WC.loop (σ := Unit) (fun _ => True) (fun _ => [(10, .val (.int .i64 0)), (11, .val (.int .i64 0))]) (fun _ => [A]) (fun _ => 0) () trivial ⟨rfl, rfl, trivial⟩ II ?_
  rintro _ _
  repeat (first | refine GD ?_ | refine NW fun _ => ?_)
  exact ret2 rfl rfl ⟨rfl, MM⟩
set_option maxHeartbeats 1000000 in
set_option maxRecDepth 10000 in
theorem first_fault (b : Nat) (op op' : ByteArray) (at_ c : Int) : RO G 55 [.iface 185 (.pointer (some ⟨b, 0, none⟩)), .string op'] (FaultR b op at_ c) (if op = op' then .tuple #[.int .i64 at_, .bool true] else .tuple #[.int .i64 0, .bool false]) := by
  refine RO.enter Tryz.func55 rfl (by decide) rfl Tryz.ntmps55 rfl (fun A hu hA => ?_) (up_FaultR _ _ _ _)
  repeat (first | refine GO ?_ | refine NW fun _ => ?_)
  refine WL.step rfl (OP.callRT rfl rfl (faults_one b op at_ c) (Ent.mem MM hu hA) rfl rfl ?_)
  rintro v E ⟨a, cap, rfl, rfl⟩
  refine WL.fact (Ent.some (Ent.own (a := a) (n := 1) (cap := cap) (T := 185) (size := 1) (cs := [.pointer (some ⟨b, 0, none⟩)]) MM) (by decide)) ?_
  rintro ⟨b2, off2, rfl⟩
  repeat (first | refine GO ?_ | refine NW fun _ => ?_)
  refine WC.loop (σ := Nat) (fun k => k ≤ 1 ∧ (k = 1 → op ≠ op')) (fun k => [(1, .val (.string op')), (9, .val (.slice (some ⟨b2, off2, none⟩) 1 cap)), (10, .val (.int .i64 1)), (11, .val (.int .i64 k))]) (fun _ => [ownS (some ⟨b2, off2, none⟩) 1 cap 185 1 [.pointer (some ⟨b, 0, none⟩)], A]) (fun k => 1 - k) 0 ⟨by decide, (fun h => absurd h (by decide))⟩ ⟨rfl, rfl, rfl, rfl, trivial⟩ II ?_
  rintro k ⟨hk, hne⟩
  obtain rfl | rfl : k = 0 ∨ k = 1 := by omega
  · repeat (first | refine GD ?_ | refine NW fun _ => ?_)
    refine WL.step rfl (OP.load1 (v := .pointer (some ⟨b, 0, none⟩)) rfl rfl rfl rfl (Ent.elem (i := 0) (Ent.own (T := 185) MM) rfl rfl) rfl rfl ?_)
    repeat (first | refine GD ?_ | refine NW fun _ => ?_)
    refine WL.step rfl (OP.load1 (v := .string op) rfl rfl rfl rfl (Ent.mem (A := A) MM hu (fun h x => cellsAt_one (i := 0) (hA h x).2 rfl)) rfl rfl ?_)
    by_cases ho : op = op'
    · rw [if_pos ho]
      repeat (first | refine GD ?_ | refine NW fun _ => ?_)
      refine WL.step rfl (OP.load1 (v := .int .i64 at_) rfl rfl rfl rfl (Ent.mem (A := A) MM hu (fun h x => cellsAt_one (i := 1) (hA h x).2 rfl)) rfl rfl ?_)
      repeat (first | refine GD ?_ | refine NW fun _ => ?_)
      exact ret2 rfl rfl ⟨rfl, MM⟩
    · rw [if_neg ho]
      repeat (first | refine GD ?_ | refine NW fun _ => ?_)
      exact ⟨1, ⟨by decide, fun _ => ho⟩, by decide, ⟨rfl, rfl, rfl, rfl, trivial⟩, Imp.refl _⟩
  · rw [if_neg (hne rfl)]
    repeat (first | refine GD ?_ | refine NW fun _ => ?_)
    exact ret2 rfl rfl ⟨rfl, MM⟩
end Go.Proofs.YtacgheafbkfciaaGreatDoor
/- Contracts of functions of the given program, and plain laws on what they compute: parts of the proofs of laws. -/

namespace Go.Proofs.YtacgheafbkfciaaGreatDoor
open Go Go.GL

def chainE (ch : Chain) (c : Int) : Assn := fun h => ErrT h ∧ chainR ch c h
theorem up_chainE (ch : Chain) (c : Int) : Up (chainE ch c) := up_and up_ErrT (up_chainR ch c)
set_option maxRecDepth 10000 in
theorem unwrapC_ro (b : Nat) (op : ByteArray) (at_ : Int) (v : Value) : RO G 173 [.pointer (some ⟨b, 0, none⟩)] (cellsAt b 0 [.string op, .int .i64 at_, v]) v := by
  refine RO.enter Tryz.func173 rfl (by decide) rfl Tryz.ntmps173 rfl (fun A hu hA => ?_) (up_cellsAt _ _ _)
  repeat (first | refine GO ?_ | refine NW fun _ => ?_)
  refine WL.step rfl (OP.load1 (v := v) rfl rfl rfl rfl (Ent.mem (A := A) MM hu (fun h x => cellsAt_one (i := 2) (hA h x) rfl)) rfl rfl ?_)
  repeat (first | refine GO ?_ | refine NW fun _ => ?_)
  exact ret1 rfl ⟨rfl, MM⟩
set_option maxHeartbeats 4000000 in
set_option maxRecDepth 10000 in
theorem asN_chain (p q : Nat) (c : Int) (old : Value) (A : Assn) (hu : Up A) (ch : Chain) (hA : ∀ h, A h → chainR ch c h) :
    Triple G 112 [valOf ch c, .iface 175 (.pointer (some ⟨p, 0, none⟩)), .agg #[hd 175, .pointer (some ⟨q, 0, none⟩), .int .u64 150], rt 44] [blk p [old] 44, blk q [.pointer (some ⟨p, 0, none⟩)] 175, A] (fun v M => v = .bool true ∧ M = [blk p [.int .i64 c] 44, A]) := by
  refine Triple.enter Tryz.func112 rfl (by decide) rfl Tryz.ntmps112 rfl (fun X => ?_)
  repeat (first | refine GO ?_ | refine NW fun _ => ?_)
  rename_i bx
  refine WC.loop (σ := Chain) (fun s => ∀ h, A h → chainR s c h) (fun s => [(0, .val (valOf s c)), (1, .val (.iface 175 (.pointer (some ⟨p, 0, none⟩)))), (3, .val (rt 44)), (6, .val (.pointer (some ⟨bx, 0, none⟩))), (8, .val (.bool false))])
    (fun _ => [blk bx [hd 175, .pointer (some ⟨q, 0, none⟩), .int .u64 150] 202, blk p [old] 44, blk q [.pointer (some ⟨p, 0, none⟩)] 175, A, X]) (fun s => s.length) ch hA ⟨rfl, rfl, rfl, rfl, rfl, trivial⟩ II ?_
  rintro s hs
  cases s with
  | nil =>
    repeat (first | refine GD ?_ | refine NW fun _ => ?_)
    refine WL.step rfl (OP.extP (.call xTypeOf rfl rfl) (fun w _ => typeOfN _ w) rfl rfl ?_)
    repeat (first | refine GD ?_ | refine NW fun _ => ?_)
    refine WL.step rfl (OP.extP (.inv xAssignableTo rfl rfl rfl (fun w => mAssignableTo _ w)) (fun w _ => assignNN w) rfl rfl ?_)
    repeat (first | refine GD ?_ | refine NW fun _ => ?_)
    refine WL.step rfl (OP.extP (.call xElemV rfl rfl) (fun w s => elemVNP _ ⟨p, 0, none⟩ w (cell_of_blk0 (b := q) s MM rfl)) rfl rfl ?_)
    repeat (first | refine GD ?_ | refine NW fun _ => ?_)
    refine WL.step rfl (OP.extNew (mk := (fun n => .agg #[hd 44, .pointer (some ⟨n, 0, none⟩), .int .u64 130])) (.call xValueOf rfl rfl) (fun w _ => valueOfN _ w) rfl rfl (fun q2 => ?_))
    repeat (first | refine GD ?_ | refine NW fun _ => ?_)
    refine WL.step rfl (OP.extSet (.call xSet rfl rfl) (fun w s => setN ⟨p, 0, none⟩ ⟨q2, 0, none⟩ c old w (cell_of_blk0 (b := q2) s MM rfl) (cell_of_blk0 (b := p) s MM rfl) (Sat.notFrozen (b := p) (c := [old]) (T := 44) s MM (Nat.zero_lt_succ _))) (by repeat (first | exact Upd.here _ _ _ _ _ | apply Upd.there)) rfl rfl ?_)
    repeat (first | refine GD ?_ | refine NW fun _ => ?_)
    exact ret1 rfl ⟨_, ⟨rfl, rfl⟩, II⟩
  | cons x r =>
    repeat (first | refine GD ?_ | refine NW fun _ => ?_)
    refine WL.step rfl (OP.extP (.call xTypeOf rfl rfl) (fun w _ => typeOfF _ w) rfl rfl ?_)
    repeat (first | refine GD ?_ | refine NW fun _ => ?_)
    refine WL.step rfl (OP.extP (.inv xAssignableTo rfl rfl rfl (fun w => mAssignableTo _ w)) (fun w _ => assignFN w) rfl rfl ?_)
    repeat (first | refine GD ?_ | refine NW fun _ => ?_)
    refine WL.step rfl (OP.assert rfl rfl (fun w => assertFIA _ w) rfl rfl ?_)
    repeat (first | refine GD ?_ | refine NW fun _ => ?_)
    refine WL.step rfl (OP.assert rfl rfl (fun w => assertFIU _ w) rfl rfl ?_)
    repeat (first | refine GD ?_ | refine NW fun _ => ?_)
    refine WL.step rfl (OP.invRO rfl rfl (fun w => mUnwrap _ w) (unwrapC_ro x.1 x.2.1 x.2.2 (valOf r c)) (Ent.mem (A := A) MM hu (fun h a => (hs h a).1)) rfl rfl ?_)
    cases r with
    | nil =>
      repeat (first | refine GD ?_ | refine NW fun _ => ?_)
      exact ⟨[], (fun h a => (hs h a).2), by simp, ⟨rfl, rfl, rfl, rfl, rfl, trivial⟩, II⟩
    | cons y r =>
      repeat (first | refine GD ?_ | refine NW fun _ => ?_)
      exact ⟨y :: r, (fun h a => (hs h a).2), by simp, ⟨rfl, rfl, rfl, rfl, rfl, trivial⟩, II⟩
set_option maxHeartbeats 4000000 in
set_option maxRecDepth 10000 in
theorem as_codeC (p : Nat) (c : Int) (old : Value) (A : Assn) (hu : Up A) (ch : Chain) (hA : ∀ h, A h → chainE ch c h) :
    Triple G 86 [valOf ch c, .iface 175 (.pointer (some ⟨p, 0, none⟩))] ([blk p [old] 44, A]) (fun v M => v = .bool true ∧ M = [blk p [.int .i64 c] 44, A]) := by
  refine Triple.enter Tryz.func86 rfl (by decide) rfl Tryz.ntmps86 rfl (fun F => ?_)
  have hE : ∀ h, A h → ErrT h := fun h a => (hA h a).1
  have hN := fun p q old => asN_chain p q c old A hu ch (fun h a => (hA h a).2)
  cases ch with
  | nil =>
    repeat (first | refine GO ?_ | refine NW fun _ => ?_)
    refine WL.step rfl (OP.extNew (mk := fun n => .agg #[hd 175, .pointer (some ⟨n, 0, none⟩), .int .u64 150]) (.call xValueOf rfl rfl) (fun w _ => valueOfNP _ w) rfl rfl (fun q => ?_))
    repeat (first | refine GO ?_ | refine NW fun _ => ?_)
    refine WL.step rfl (OP.extP (.call xType rfl rfl) (fun w _ => typeNP _ w) rfl rfl ?_)
    repeat (first | refine GO ?_ | refine NW fun _ => ?_)
    refine WL.step rfl (OP.extP (.inv xKind rfl rfl rfl (fun w => mKind _ w)) (fun w _ => kindNP w) rfl rfl ?_)
    repeat (first | refine GO ?_ | refine NW fun _ => ?_)
    refine WL.guardT rfl rfl rfl rfl (OP.extP (.call xIsNil rfl rfl) (fun w s => isNilNP _ ⟨p, 0, none⟩ w (cell_of_blk0 (b := q) s MM rfl)) rfl rfl ?_)
    repeat (first | refine GO ?_ | refine NW fun _ => ?_)
    refine WL.step rfl (OP.extP (.inv xElem rfl rfl rfl (fun w => mElem _ w)) (fun w _ => elemNP w) rfl rfl ?_)
    repeat (first | refine GO ?_ | refine NW fun _ => ?_)
    refine WL.step rfl (OP.extP (.inv xKind rfl rfl rfl (fun w => mKind _ w)) (fun w _ => kindN w) rfl rfl ?_)
    repeat (first | refine GO ?_ | refine NW fun _ => ?_)
    refine WL.guardT rfl rfl rfl rfl (OP.load1 (v := errT) rfl rfl rfl rfl (Ent.mem (A := A) MM hu hE) rfl rfl ?_)
    repeat (first | refine GO ?_ | refine NW fun _ => ?_)
    refine WL.guardT rfl rfl rfl rfl (OP.extP (.inv xImplements rfl rfl rfl (fun w => mImplements _ w)) (fun w _ => implementsN w) rfl rfl ?_)
    repeat (first | refine GO ?_ | refine NW fun _ => ?_)
    refine WL.step rfl (OP.call (pre := [blk p [old] 44, blk q [.pointer (some ⟨p, 0, none⟩)] 175, A]) rfl rfl (hN p q old) PS rfl rfl ?_)
    rintro _ _ ⟨rfl, rfl⟩
    repeat (first | refine GO ?_ | refine NW fun _ => ?_)
    exact ret1 rfl ⟨_, ⟨rfl, rfl⟩, II⟩
  | cons x r =>
    repeat (first | refine GO ?_ | refine NW fun _ => ?_)
    refine WL.step rfl (OP.extNew (mk := fun n => .agg #[hd 175, .pointer (some ⟨n, 0, none⟩), .int .u64 150]) (.call xValueOf rfl rfl) (fun w _ => valueOfNP _ w) rfl rfl (fun q => ?_))
    repeat (first | refine GO ?_ | refine NW fun _ => ?_)
    refine WL.step rfl (OP.extP (.call xType rfl rfl) (fun w _ => typeNP _ w) rfl rfl ?_)
    repeat (first | refine GO ?_ | refine NW fun _ => ?_)
    refine WL.step rfl (OP.extP (.inv xKind rfl rfl rfl (fun w => mKind _ w)) (fun w _ => kindNP w) rfl rfl ?_)
    repeat (first | refine GO ?_ | refine NW fun _ => ?_)
    refine WL.guardT rfl rfl rfl rfl (OP.extP (.call xIsNil rfl rfl) (fun w s => isNilNP _ ⟨p, 0, none⟩ w (cell_of_blk0 (b := q) s MM rfl)) rfl rfl ?_)
    repeat (first | refine GO ?_ | refine NW fun _ => ?_)
    refine WL.step rfl (OP.extP (.inv xElem rfl rfl rfl (fun w => mElem _ w)) (fun w _ => elemNP w) rfl rfl ?_)
    repeat (first | refine GO ?_ | refine NW fun _ => ?_)
    refine WL.step rfl (OP.extP (.inv xKind rfl rfl rfl (fun w => mKind _ w)) (fun w _ => kindN w) rfl rfl ?_)
    repeat (first | refine GO ?_ | refine NW fun _ => ?_)
    refine WL.guardT rfl rfl rfl rfl (OP.load1 (v := errT) rfl rfl rfl rfl (Ent.mem (A := A) MM hu hE) rfl rfl ?_)
    repeat (first | refine GO ?_ | refine NW fun _ => ?_)
    refine WL.guardT rfl rfl rfl rfl (OP.extP (.inv xImplements rfl rfl rfl (fun w => mImplements _ w)) (fun w _ => implementsN w) rfl rfl ?_)
    repeat (first | refine GO ?_ | refine NW fun _ => ?_)
    refine WL.step rfl (OP.call (pre := [blk p [old] 44, blk q [.pointer (some ⟨p, 0, none⟩)] 175, A]) rfl rfl (hN p q old) PS rfl rfl ?_)
    rintro _ _ ⟨rfl, rfl⟩
    repeat (first | refine GO ?_ | refine NW fun _ => ?_)
    exact ret1 rfl ⟨_, ⟨rfl, rfl⟩, II⟩
set_option maxRecDepth 10000 in
theorem codeC (ch : Chain) (c : Int) : RO G 49 [valOf ch c] (chainE ch c) (.int .i64 c) := by
  refine RO.enter Tryz.func49 rfl (by decide) rfl Tryz.ntmps49 rfl (fun A hu hA => ?_) (up_chainE _ _)
  repeat (first | refine GO ?_ | refine NW fun _ => ?_)
  rename_i p
  refine WL.step rfl (OP.call (pre := [blk p [.int .i64 0] 44, A]) rfl rfl (as_codeC p c (.int .i64 0) A hu ch hA) PS rfl rfl ?_)
  rintro _ _ ⟨rfl, rfl⟩
  repeat (first | refine GO ?_ | refine NW fun _ => ?_)
  exact ret1 rfl ⟨rfl, MM⟩
def ptrOf (x : Nat × ByteArray × Int) : Value := .pointer (some ⟨x.1, 0, none⟩)
theorem asFN (p : Nat) (ch : Chain) (c : Int) (old : Value) (A : Assn) (hu : Up A) (hA : ∀ h, A h → ErrT h) :
    Triple G 86 [valOf ch c, .iface 224 (.pointer (some ⟨p, 0, none⟩))] ([blk p [old] 185, A]) (fun v M => match ch with
      | [] => v = .bool false ∧ M = [blk p [old] 185, A]
      | x :: _ => v = .bool true ∧ M = [blk p [ptrOf x] 185, A]) := by
  cases ch with
  | nil => exact as_faultsN p c old A hu hA
  | cons x r => exact as_faults x.1 p old A hu hA
set_option maxHeartbeats 1000000 in
set_option maxRecDepth 10000 in
theorem faultsC (ch : Chain) (c : Int) (hl : ch.length < 1000) : RT G 94 [valOf ch c] (chainE ch c) (Ptrs (ch.map ptrOf)) := by
  refine RT.enter Tryz.func94 rfl (by decide) rfl Tryz.ntmps94 rfl (fun A hu hA => ?_)
  repeat (first | refine GO ?_ | refine NW fun _ => ?_)
  rename_i p
  refine WC.imp (Imp.nilS 185 1) ?_
  refine WC.loop (σ := Chain × Chain × Value × Option Addr × Nat) (fun s => s.1 ++ s.2.1 = ch ∧ ∀ h, A h → chainR s.2.1 c h)
    (fun s => [(0, .val (valOf s.2.1 c)), (3, .val (.slice s.2.2.2.1 s.1.length s.2.2.2.2)), (4, .val (.pointer (some ⟨p, 0, none⟩)))])
    (fun s => [blk p [s.2.2.1] 185, ownS s.2.2.2.1 s.1.length s.2.2.2.2 185 1 (s.1.map ptrOf), A])
    (fun s => s.2.1.length) ([], ch, .pointer none, none, 0) ⟨rfl, fun h a => (hA h a).2⟩ ⟨rfl, rfl, rfl, trivial⟩ II ?_
  rintro ⟨d, r, old, a, cap⟩ ⟨hd, hr⟩
  dsimp only at hd hr ⊢
  have hE : ∀ h, A h → ErrT h := fun h a => (hA h a).1
  cases r with
  | nil =>
    rw [List.append_nil] at hd
    subst hd
    repeat (first | refine GO ?_ | refine NW fun _ => ?_)
    refine WL.step rfl (OP.call (pre := [blk p [old] 185, A]) rfl rfl (as_faultsN p c _ A hu hE) PS rfl rfl ?_)
    rintro _ _ ⟨rfl, rfl⟩
    repeat (first | refine GO ?_ | refine NW fun _ => ?_)
    exact ret1 rfl ⟨[_], ⟨a, cap, by rw [List.length_map], by rw [List.length_map]⟩, II⟩
  | cons x r =>
    have hdl : d.length < 1000 := by rw [← hd, List.length_append] at hl; omega
    repeat (first | refine GO ?_ | refine NW fun _ => ?_)
    refine WL.step rfl (OP.call (pre := [blk p [old] 185, A]) rfl rfl (as_faults x.1 p _ A hu hE) PS rfl rfl ?_)
    rintro _ _ ⟨rfl, rfl⟩
    repeat (first | refine GO ?_ | refine NW fun _ => ?_)
    refine WL.step rfl (OP.append rfl rfl rfl rfl rfl rfl rfl rfl rfl P1 (Ent.own MM) rfl (by omega) (by omega) rfl rfl (fun a2 cap2 => ?_))
    repeat (first | refine GO ?_ | refine NW fun _ => ?_)
    refine WL.step rfl (OP.load1 (v := valOf r c) rfl rfl rfl rfl (Ent.mem (A := A) MM hu (fun h y => cellsAt_one (i := 2) (hr h y).1 rfl)) rfl rfl ?_)
    repeat (first | refine GO ?_ | refine NW fun _ => ?_)
    exact ⟨(d ++ [x], r, .pointer (some ⟨x.1, 0, none⟩), a2, cap2), ⟨by rw [← hd]; simp, fun h a => (hr h a).2⟩, by dsimp only; simp, ⟨rfl, by rw [List.length_append]; rfl, rfl, trivial⟩, by rw [List.length_append, List.map_append]; exact II⟩
/-- the outermost one of a name -/
def firstC (op : ByteArray) : List (ByteArray × Int) → Option Int
  | [] => none
  | x :: r => if x.1 = op then some x.2 else firstC op r
def firstV (o : Option Int) : Value := match o with
  | some n => .tuple #[.int .i64 n, .bool true]
  | none => .tuple #[.int .i64 0, .bool false]
theorem chainR_get : ∀ {ch : Chain} {c : Int} {h : Hp}, chainR ch c h → ∀ k (hk : k < ch.length), ∃ v, cellsAt ch[k].1 0 [.string ch[k].2.1, .int .i64 ch[k].2.2, v] h
  | x :: r, c, h, hh, 0, _ => ⟨_, hh.1⟩
  | x :: r, c, h, hh, k + 1, hk => chainR_get hh.2 k (by simpa using hk)
theorem cellsAt_pre {b off : Nat} {l m : List Value} {h : Hp} (x : cellsAt b off (l ++ m) h) : cellsAt b off l h := by
  obtain ⟨c, T, fr, hb, hc⟩ := x
  exact ⟨c, T, fr, hb, fun i v hi => hc i v (by rw [List.getElem?_append_left (List.getElem?_eq_some_iff.1 hi).1]; exact hi)⟩
set_option maxHeartbeats 1000000 in
set_option maxRecDepth 10000 in
theorem firstC_ro (ch : Chain) (c : Int) (op : ByteArray) (hl : ch.length < 1000) : RO G 55 [valOf ch c, .string op] (chainE ch c) (firstV (firstC op (ch.map Prod.snd))) := by
  refine RO.enter Tryz.func55 rfl (by decide) rfl Tryz.ntmps55 rfl (fun A hu hA => ?_) (up_chainE _ _)
  repeat (first | refine GO ?_ | refine NW fun _ => ?_)
  refine WL.step rfl (OP.callRT rfl rfl (faultsC ch c hl) (Ent.mem MM hu hA) rfl rfl ?_)
  rintro v E ⟨a, cap, rfl, rfl⟩
  rw [List.length_map]
  repeat (first | refine GO ?_ | refine NW fun _ => ?_)
  refine WC.loop (σ := Nat) (fun k => k ≤ ch.length ∧ firstC op (ch.map Prod.snd) = firstC op ((ch.drop k).map Prod.snd)) (fun k => [(1, .val (.string op)), (9, .val (.slice a ch.length cap)), (10, .val (.int .i64 ch.length)), (11, .val (.int .i64 k))]) (fun _ => [ownS a ch.length cap 185 1 (ch.map ptrOf), A]) (fun k => ch.length - k) 0 ⟨Nat.zero_le _, rfl⟩ ⟨rfl, rfl, rfl, rfl, trivial⟩ II ?_
  rintro k ⟨hk, hf⟩
  by_cases hlt : k < ch.length
  rotate_left
  · rw [List.drop_eq_nil_of_le (by omega)] at hf
    rw [hf]
    repeat (first | refine GD ?_ | refine NW fun _ => ?_)
    exact ret2 rfl rfl ⟨rfl, MM⟩
  rw [List.drop_eq_getElem_cons hlt, List.map_cons] at hf
  refine WC.fact (Ent.some (Ent.own (a := a) (n := ch.length) (cap := cap) (T := 185) (size := 1) (cs := ch.map ptrOf) MM) (by omega)) ?_
  rintro ⟨b2, off2, rfl⟩
  have hg : ∀ {L}, A ∈ L → Ent L (cellsAt ch[k].1 0 [.string ch[k].2.1, .int .i64 ch[k].2.2]) := fun m => Ent.mem m hu fun h a => by
    obtain ⟨v, hv⟩ := chainR_get (hA h a).2 k hlt
    exact cellsAt_pre (m := [v]) hv
  have hel : (ch.map ptrOf)[k * 1]? = some (ptrOf ch[k]) := by simp [hlt]
  generalize ch[k] = x at *
  repeat (first | refine GD ?_ | refine NW fun _ => ?_)
  refine WL.step rfl (OP.load1 (v := .pointer (some ⟨x.1, 0, none⟩)) rfl rfl rfl rfl (Ent.elem (i := k * 1) (Ent.own (T := 185) MM) rfl hel) rfl rfl ?_)
  repeat (first | refine GD ?_ | refine NW fun _ => ?_)
  refine WL.step rfl (OP.load1 (v := .string x.2.1) rfl rfl rfl rfl (Ent.one (i := 0) (hg MM) rfl) rfl rfl ?_)
  by_cases ho : x.2.1 = op
  · rw [hf, firstC, if_pos ho]
    repeat (first | refine GD ?_ | refine NW fun _ => ?_)
    refine WL.step rfl (OP.load1 (v := .int .i64 x.2.2) rfl rfl rfl rfl (Ent.one (i := 1) (hg MM) rfl) rfl rfl ?_)
    repeat (first | refine GD ?_ | refine NW fun _ => ?_)
    exact ret2 rfl rfl ⟨rfl, MM⟩
  · rw [firstC, if_neg ho] at hf
    repeat (first | refine GD ?_ | refine NW fun _ => ?_)
    exact ⟨k + 1, ⟨by omega, hf⟩, by omega, ⟨rfl, rfl, rfl, rfl, trivial⟩, Imp.refl _⟩
end Go.Proofs.YtacgheafbkfciaaGreatDoor
/- Contracts of functions of the given program, and plain laws on what they compute: parts of the proofs of laws. -/

namespace Go.Proofs.YtacgheafbkfciaaGreatDoor
open Go Go.GL Go.Extern

/-! errors.Is -/
theorem xComparable : IsExt Tryz.prog 179 (ReflectliteType.method (fun t => do Rtype.noPackHeld "Comparable" t; pure (.bool (← typeInfo t).comparable))) := fun args w => run_callFunc_extern (e := (ReflectliteType.method (fun t => do Rtype.noPackHeld "Comparable" t; pure (.bool (← typeInfo t).comparable)))) Tryz.func179 (by kernel_rfl) (by kernel_rfl) (by kernel_rfl) (by kernel_rfl) args w
theorem mComparable (h : Value) (w : World) : (Go.method (Tryz.prog.types.size + Made.depth) 210 (.agg #[h]) "Comparable").run Tryz.prog w = .ok (179, .agg #[h]) w := by kernel_rfl
theorem comparableN (w : World) : ((ReflectliteType.method (fun t => do Rtype.noPackHeld "Comparable" t; pure (.bool (← typeInfo t).comparable))) #[.agg #[hd 44]]).run Tryz.prog w = .ok (.bool true) w := by kernel_rfl
theorem assertFIS (v : Value) (w : World) : (Instr.typeAssert (.iface 185 v) 25 212 true).run Tryz.prog w = .ok (.tuple #[.nilIface, .bool false]) w := run_typeAssert_lacksB Tryz.underlying212 (by kernel_rfl) (by kernel_rfl) v 25 w
theorem assertNIS (v : Value) (w : World) : (Instr.typeAssert (.iface 44 v) 25 212 true).run Tryz.prog w = .ok (.tuple #[.nilIface, .bool false]) w := run_typeAssert_lacksB Tryz.underlying212 (by kernel_rfl) (by kernel_rfl) v 25 w
set_option maxHeartbeats 4000000 in
set_option maxRecDepth 10000 in
theorem is_chain (ch : Chain) (c e : Int) : RO G 88 [valOf ch c, .iface 44 (.int .i64 e), .bool true] (chainR ch c) (.bool (decide (c = e))) := by
  refine RO.enter Tryz.func88 rfl (by decide) rfl Tryz.ntmps88 rfl (fun A hu hA => ?_) (up_chainR _ _)
  repeat (first | refine GO ?_ | refine NW fun _ => ?_)
  refine WC.loop (σ := Chain) (fun s => ∀ h, A h → chainR s c h) (fun s => [(0, .val (valOf s c)), (1, .val (.iface 44 (.int .i64 e))), (2, .val (.bool true))])
    (fun _ => [A]) (fun s => s.length) ch hA ⟨rfl, rfl, rfl, trivial⟩ II ?_
  rintro s hs
  cases s with
  | nil =>
    by_cases hce : c = e
    · rw [decide_eq_true hce]
      repeat (first | refine GD ?_ | refine NW fun _ => ?_)
      exact ret1 rfl ⟨rfl, MM⟩
    rw [decide_eq_false hce]
    repeat (first | refine GD ?_ | refine NW fun _ => ?_)
    refine WL.step rfl (OP.assert rfl rfl (fun w => assertNIS _ w) rfl rfl ?_)
    repeat (first | refine GD ?_ | refine NW fun _ => ?_)
    refine WL.step rfl (OP.assert rfl rfl (fun w => assertNIU _ w) rfl rfl ?_)
    repeat (first | refine GD ?_ | refine NW fun _ => ?_)
    refine WL.step rfl (OP.assert rfl rfl (fun w => assertNIL _ w) rfl rfl ?_)
    repeat (first | refine GD ?_ | refine NW fun _ => ?_)
    exact ret1 rfl ⟨rfl, MM⟩
  | cons x r =>
    repeat (first | refine GD ?_ | refine NW fun _ => ?_)
    refine WL.step rfl (OP.assert rfl rfl (fun w => assertFIS _ w) rfl rfl ?_)
    repeat (first | refine GD ?_ | refine NW fun _ => ?_)
    refine WL.step rfl (OP.assert rfl rfl (fun w => assertFIU _ w) rfl rfl ?_)
    repeat (first | refine GD ?_ | refine NW fun _ => ?_)
    refine WL.step rfl (OP.invRO rfl rfl (fun w => mUnwrap _ w) (unwrapC_ro x.1 x.2.1 x.2.2 (valOf r c)) (Ent.mem (A := A) MM hu (fun h a => (hs h a).1)) rfl rfl ?_)
    cases r with
    | nil =>
      repeat (first | refine GD ?_ | refine NW fun _ => ?_)
      exact ⟨[], (fun h a => (hs h a).2), by simp, ⟨rfl, rfl, rfl, trivial⟩, II⟩
    | cons y r =>
      repeat (first | refine GD ?_ | refine NW fun _ => ?_)
      exact ⟨y :: r, (fun h a => (hs h a).2), by simp, ⟨rfl, rfl, rfl, trivial⟩, II⟩
set_option maxHeartbeats 4000000 in
set_option maxRecDepth 10000 in
theorem eis_chain (ch : Chain) (c e : Int) : RO G 50 [valOf ch c, .iface 44 (.int .i64 e)] (chainR ch c) (.bool (decide (c = e))) := by
  refine RO.enter Tryz.func50 rfl (by decide) rfl Tryz.ntmps50 rfl (fun A hu hA => ?_) (up_chainR _ _)
  have hic := is_chain ch c e
  cases ch with
  | nil =>
    dsimp only [valOf] at hic ⊢
    repeat (first | refine GO ?_ | refine NW fun _ => ?_)
    refine WL.step rfl (OP.extP (.call xTypeOf rfl rfl) (fun w _ => typeOfN _ w) rfl rfl ?_)
    repeat (first | refine GO ?_ | refine NW fun _ => ?_)
    refine WL.step rfl (OP.extP (.inv xComparable rfl rfl rfl (fun w => mComparable _ w)) (fun w _ => comparableN w) rfl rfl ?_)
    repeat (first | refine GO ?_ | refine NW fun _ => ?_)
    refine WL.step rfl (OP.callRO rfl rfl hic (Ent.mem MM hu hA) rfl rfl ?_)
    repeat (first | refine GO ?_ | refine NW fun _ => ?_)
    exact ret1 rfl ⟨rfl, MM⟩
  | cons x r =>
    dsimp only [valOf] at hic ⊢
    repeat (first | refine GO ?_ | refine NW fun _ => ?_)
    refine WL.step rfl (OP.extP (.call xTypeOf rfl rfl) (fun w _ => typeOfN _ w) rfl rfl ?_)
    repeat (first | refine GO ?_ | refine NW fun _ => ?_)
    refine WL.step rfl (OP.extP (.inv xComparable rfl rfl rfl (fun w => mComparable _ w)) (fun w _ => comparableN w) rfl rfl ?_)
    repeat (first | refine GO ?_ | refine NW fun _ => ?_)
    refine WL.step rfl (OP.callRO rfl rfl hic (Ent.mem MM hu hA) rfl rfl ?_)
    repeat (first | refine GO ?_ | refine NW fun _ => ?_)
    exact ret1 rfl ⟨rfl, MM⟩
set_option maxRecDepth 10000 in
theorem isC_ro (ch : Chain) (c e : Int) (he : e ≠ 0) : RO G 16 [valOf ch c, .int .i64 e] (chainR ch c) (.bool (decide (c = e))) := by
  refine RO.enter Tryz.func16 rfl (by decide) rfl Tryz.ntmps16 rfl (fun A hu hA => ?_) (up_chainR _ _)
  repeat (first | refine GD ?_ | refine NW fun _ => ?_)
  refine WL.step rfl (OP.callRO rfl rfl (eis_chain ch c e) (Ent.mem MM hu hA) rfl rfl ?_)
  repeat (first | refine GD ?_ | refine NW fun _ => ?_)
  exact ret1 rfl ⟨rfl, MM⟩
end Go.Proofs.YtacgheafbkfciaaGreatDoor
/- Contracts of functions of the given program, and plain laws on what they compute: parts of the proofs of laws. -/

namespace Go.Proofs.YtacgheafbkfciaaGreatDoor
open Go Go.GL

theorem cmd_of {x : List Value} (h : LfsOk [.int .i64, .int .i64, .int .i64] x) : ∃ c : Cmd, x = encCmd c ∧ True := by
  obtain ⟨k, s, rfl, _, h1⟩ := h.int
  obtain ⟨n, s2, rfl, _, h2⟩ := h1.int
  obtain ⟨m, s3, rfl, _, h3⟩ := h2.int
  rw [h3.nil]
  exact ⟨(k, n, m), rfl, trivial⟩
theorem answerC_stale {C : Crd} {c : Cmd} (h : C.R.number = 0 ∨ c.2.2 ≠ C.R.number ∨ c.1 ≠ C.R.phase) : answerC C c = .error ([(coordT, c.2.2), (roundT, c.2.2)], 10) := by
  unfold answerC answerR
  rw [if_pos h]
set_option maxHeartbeats 16000000 in
set_option maxRecDepth 10000 in
theorem cstale_ro (a : Option Addr) (n c : Nat) (fl : List Int) (cm : Cmd) (keep : Int) (hn : n = fl.length) (hk : 0 ≤ keep ∧ keep < 18446744073709551616) :
    RO G 4 [.slice a n c, .agg (encCmd cm).toArray, .int .u64 keep] (readS a n 1 (fl.map vI)) (.bool true) := by
  refine RO.enter Tryz.func4 rfl (by decide) rfl Tryz.ntmps4 rfl (fun A hu hA => ?_) (up_readS _ _ _ _)
  have hww : widest = 1152921504606846975 := rfl
  obtain ⟨ck, cv, cn⟩ := cm
  rw [show encCmd (ck, cv, cn) = [.int .i64 ck, .int .i64 cv, .int .i64 cn] from rfl]
  repeat (first | refine GD ?_ | refine NW fun _ => ?_)
  rename_i bc
  refine WL.step rfl (OP.callRO rfl rfl cawake_ro (fun _ _ => trivial) rfl rfl ?_)
  by_cases h10 : 10 < n
  · repeat (first | refine GD ?_ | refine NW fun _ => ?_)
    refine WL.step rfl (OP.callRO rfl rfl cawake_ro (fun _ _ => trivial) rfl rfl ?_)
    repeat (first | refine GD ?_ | refine NW fun _ => ?_)
    exact ret1 rfl ⟨rfl, MM⟩
  repeat (first | refine GD ?_ | refine NW fun _ => ?_)
  refine WL.step rfl (OP.callRT rfl rfl (dnew_rt 66) (fun _ _ => trivial) rfl rfl ?_)
  rintro _ _ ⟨q, rfl, rfl⟩
  repeat (first | refine GD ?_ | refine NW fun _ => ?_)
  cases hnw : newM fl f0 with
  | error vc =>
    obtain ⟨bv, ce⟩ := vc
    have hop := copen_ok q 64 (a, n, c) (Dsk.new 66) A hu fl hA (show n < 1000000 by omega) (Dsk.new_ok 66) (by decide) (by decide) (fun J2 D2 h => by
      obtain ⟨J, D, ho, _, _, _, _, I⟩ := CInv.fresh (n := 66) (ring := 64) (by decide) (by decide) (by decide) (by decide) (l := []) (f := f0) rfl
      have ho' : openM (Dsk.new 66) 64 = .ok (J, D) := ho
      rw [ho'] at h; cases h; exact ⟨I.jr (by omega), I.J.right⟩)
    unfold OpenCo at hop
    rw [show openC (Dsk.new 66) 64 fl = .error ([(coordT, 0), (memT, bv)], ce) by unfold openC; rw [hnw]] at hop
    refine WL.step rfl (OP.call (pre := [dsk q (Dsk.new 66), A]) rfl rfl hop PS rfl rfl ?_)
    rintro _ _ ⟨e, E, hE, rfl, rfl⟩
    obtain ⟨y, ch, hc1, rfl, rfl⟩ := isEr_one hE (by simp)
    repeat (first | refine GD ?_ | refine NW fun _ => ?_)
    exact ret1 rfl ⟨rfl, MM⟩
  | ok f =>
  obtain ⟨J, D, ho, hr, hh, hoc, hst, I0⟩ := CInv.fresh (n := 66) (ring := 64) (by decide) (by decide) (by decide) (by decide) hnw
  have ho' : openM (Dsk.new 66) 64 = .ok (J, D) := ho
  have hoc' : openC (Dsk.new 66) 64 fl = .ok ⟨J, D, f, [], rnd0, 0, 0⟩ := hoc
  have hop := copen_ok q 64 (a, n, c) (Dsk.new 66) A hu fl hA (show n < 1000000 by omega) (Dsk.new_ok 66) (by decide) (by decide) (fun J2 D2 h => by
    rw [ho'] at h; cases h; exact ⟨I0.jr (by omega), I0.J.right⟩)
  unfold OpenCo at hop
  rw [hoc'] at hop
  have hlen : (listM f).length = n := by rw [order_len hnw, hn]
  have hf4 : f.length = 4 := newM_length hnw
  have hl4 : (listM f).length ≤ 4 := by have := listM_len f; omega
  refine WL.step rfl (OP.call (pre := [dsk q (Dsk.new 66), A]) rfl rfl hop PS rfl rfl ?_)
  rintro _ _ ⟨p, g, rfl, rfl⟩
  generalize hC : (⟨J, D, f, [], rnd0, 0, 0⟩ : Crd) = C at *
  have hnum : C.R.number = 0 := by rw [← hC]; rfl
  have hl0 : C.last = 0 := by rw [← hC]
  have hmk : C.mem (C.last + 1) = listM f := by rw [← hC]; rfl
  have hheld : C.J.held.length = 0 := by rw [← hC]; show J.held.length = 0; rw [hh]; rfl
  have hring : C.J.ring = 64 := by rw [← hC]; exact hr
  have hcf : C.f = f := by rw [← hC]
  have hca := canswer_ok p q g (a, n, c) C _ (ck, cv, cn) I0 (by have := I0.R.vl; omega)
  unfold AnswerCo at hca
  rw [answerC_stale (c := (ck, cv, cn)) (.inl hnum)] at hca
  repeat (first | refine GD ?_ | refine NW fun _ => ?_)
  skip
  refine WL.step rfl (OP.call (pre := [crdA p q g _ C, dsk q C.D]) rfl rfl hca PS rfl rfl ?_)
  rintro _ _ ⟨e, E, hE, rfl, rfl⟩
  obtain ⟨y, ch, hc1, rfl, rfl⟩ := isEr_one hE (by simp)
  have his := isC_ro (y :: ch) 10 10 (by decide)
  dsimp only [valOf] at his
  repeat (first | refine GD ?_ | refine NW fun _ => ?_)
  refine WL.step rfl (OP.callRO rfl rfl his (Ent.at (up_chainR _ _) MM) rfl rfl ?_)
  clear his hc1 hE
  have hcb := cbegin_ok p q g (a, n, c) C _ I0 (by omega)
  unfold BeginCo at hcb
  by_cases h0 : listM f = []
  · have hop : beginC C = .error ([(coordT, C.last + 1)], 8) := by unfold beginC; rw [if_neg (not_not_intro hnum), if_pos (hmk.trans h0)]
    rw [hop] at hcb
    have hn0 : n = 0 := by rw [h0] at hlen; exact hlen.symm
    subst hn0
    repeat (first | refine GD ?_ | refine NW fun _ => ?_)
    refine WL.step rfl (OP.call (pre := [crdA p q g _ _, dsk q C.D]) rfl rfl hcb PS rfl rfl ?_)
    rintro _ _ ⟨e, E, hE, rfl, rfl⟩
    obtain ⟨y2, ch2, hc2, rfl, rfl⟩ := isEr_one hE (by simp)
    repeat (first | refine GD ?_ | refine NW fun _ => ?_)
    exact ret1 rfl ⟨rfl, MM⟩
  obtain ⟨l, C1, hbg⟩ := I0.beginOk (by omega) hnum (by rw [hmk]; exact h0) (by omega)
  rw [hbg] at hcb
  obtain ⟨I1, _, hl1, hch1, hf1, _, hnum1, hr1, hh1, _, _, hl', hR1⟩ := I0.begin (by omega) hbg
  have hll : l.length = n := by rw [hl', List.length_map, hmk, hlen]
  have hph1 : C1.R.phase = 1 := by rw [hR1]
  clear hR1 hl'
  rw [hl0] at hcb hl1 hnum1
  rw [show (0 : Int) + 1 = 1 from rfl] at hcb hl1 hnum1
  repeat (first | refine GD ?_ | refine NW fun _ => ?_)
  refine WL.step rfl (OP.call (pre := [crdA p q g _ _, dsk q C.D]) rfl rfl hcb PS rfl rfl ?_)
  rintro _ _ ⟨_, _, ⟨xa, xc, rfl, rfl⟩, rfl, rfl⟩
  rw [hll]
  have hcr := ccrash_ok p q g (a, n, c) C1 _ I1 (by omega) keep hk A hu fl hA (show n < 1000000 by omega) (by rw [hf1, hcf]; exact hnw)
  by_cases hs : cn = 1 ∧ ck = 1
  · obtain ⟨rfl, rfl⟩ := hs
    repeat (first | refine GD ?_ | refine NW fun _ => ?_)
    refine WL.step rfl (OP.call (pre := [crdA p q g _ C1, dsk q C1.D, A]) rfl rfl hcr PS rfl rfl ?_)
    rintro _ _ ⟨rfl, J', D', _, er, eh, _, I2, rfl⟩
    generalize hC2 : ({ C1 with J := J', D := D', R := rnd0, marked := 0 } : Crd) = C2 at *
    have hn2 : C2.R.number = 0 := by rw [← hC2]; rfl
    have hl2 : C2.last = 1 := by rw [← hC2]; exact hl1
    have hD2 : D' = C2.D := by rw [← hC2]
    rw [hD2]
    repeat (first | refine GD ?_ | refine NW fun _ => ?_)
    refine WC.loop (σ := Nat) (fun i => i ≤ n)
      (fun i => [(7, .val (.pointer (some ⟨p, 0, none⟩))), (11, .val (.int .i64 1)), (12, .val (.slice xa n xc)), (97, .val (.int .i64 n)), (98, .val (.int .i64 i))])
      (fun i => [ownS xa n xc 50 3 (l.flatMap encCmd), crdA p q g (a, n, c) C2, dsk q C2.D, A]) (fun i => n - i) 0 (Nat.zero_le _) ⟨rfl, rfl, rfl, rfl, rfl, trivial⟩ II ?_
    intro i hi
    by_cases hlt : i < n
    · have hli : i < l.length := by omega
      refine WC.fact (Ent.some (Ent.own (a := xa) (n := n) (cap := xc) (T := 50) (size := 3) (cs := l.flatMap encCmd) MM) (by omega)) ?_
      rintro ⟨ob, off, rfl⟩
      have hld : ∀ {L}, ownS (some ⟨ob, off, none⟩) n xc 50 3 (l.flatMap encCmd) ∈ L → Ent L (cellsAt ob (off + i * 3) (encCmd l[i])) := fun m => Ent.elA encCmd_len (Ent.own m) hli
      generalize l[i] = ci at *
      have hca := canswer_ok p q g (a, n, c) C2 _ ci I2 (by have := I2.R.vl; omega)
      unfold AnswerCo at hca
      rw [answerC_stale (c := ci) (.inl hn2)] at hca
      repeat (first | refine GD ?_ | refine NW fun _ => ?_)
      refine WL.step rfl (OP.loadA (l := encCmd ci) rfl rfl rfl rfl (hld MM) rfl rfl rfl ?_)
      refine WL.step rfl (OP.call (pre := [crdA p q g _ C2, dsk q C2.D]) rfl rfl hca PS rfl rfl ?_)
      rintro _ _ ⟨e, E, hE, rfl, rfl⟩
      obtain ⟨y, ch, hc1, rfl, rfl⟩ := isEr_one hE (by simp)
      have his := isC_ro (y :: ch) 10 10 (by decide)
      dsimp only [valOf] at his
      repeat (first | refine GD ?_ | refine NW fun _ => ?_)
      refine WL.step rfl (OP.callRO rfl rfl his (Ent.at (up_chainR _ _) MM) rfl rfl ?_)
      repeat (first | refine GD ?_ | refine NW fun _ => ?_)
      exact ⟨i + 1, by omega, by omega, ⟨rfl, rfl, rfl, rfl, rfl, trivial⟩, II⟩
    repeat (first | refine GD ?_ | refine NW fun _ => ?_)
    refine WL.step rfl (OP.callRO rfl rfl (crounds_ro p q g (a, n, c) C2) (Ent.at (up_crdA _ _ _ _ _) MM) rfl rfl ?_)
    rw [hl2, hn2]
    repeat (first | refine GD ?_ | refine NW fun _ => ?_)
    exact ret1 rfl ⟨rfl, MM⟩
  · have hst2 : C1.R.number = 0 ∨ ((ck, cv, cn) : Cmd).2.2 ≠ C1.R.number ∨ ((ck, cv, cn) : Cmd).1 ≠ C1.R.phase := by
      rw [hnum1, hph1]
      show (1 : Int) = 0 ∨ cn ≠ 1 ∨ ck ≠ 1
      omega
    by_cases hs1 : cn = 1
    · have hs2 : ¬ ck = 1 := fun h => hs ⟨hs1, h⟩
      have hca := canswer_ok p q g (a, n, c) C1 _ (ck, cv, cn) I1 (by have := I1.R.vl; omega)
      unfold AnswerCo at hca
      rw [answerC_stale (c := (ck, cv, cn)) hst2] at hca
      repeat (first | refine GD ?_ | refine NW fun _ => ?_)
      skip
      refine WL.step rfl (OP.call (pre := [crdA p q g _ C1, dsk q C1.D]) rfl rfl hca PS rfl rfl ?_)
      rintro _ _ ⟨e, E, hE, rfl, rfl⟩
      obtain ⟨y, ch, hc1, rfl, rfl⟩ := isEr_one hE (by simp)
      have his := isC_ro (y :: ch) 10 10 (by decide)
      dsimp only [valOf] at his
      repeat (first | refine GD ?_ | refine NW fun _ => ?_)
      refine WL.step rfl (OP.callRO rfl rfl (crounds_ro p q g (a, n, c) C1) (Ent.at (up_crdA _ _ _ _ _) MM) rfl rfl ?_)
      rw [hl1, hnum1]
      repeat (first | refine GD ?_ | refine NW fun _ => ?_)
      refine WL.step rfl (OP.callRO rfl rfl his (Ent.at (up_chainR _ _) MM) rfl rfl ?_)
      repeat (first | refine GD ?_ | refine NW fun _ => ?_)
      refine WL.step rfl (OP.call (pre := [crdA p q g _ C1, dsk q C1.D, A]) rfl rfl hcr PS rfl rfl ?_)
      rintro _ _ ⟨rfl, J', D', _, er, eh, _, I2, rfl⟩
      generalize hC2 : ({ C1 with J := J', D := D', R := rnd0, marked := 0 } : Crd) = C2 at *
      have hn2 : C2.R.number = 0 := by rw [← hC2]; rfl
      have hl2 : C2.last = 1 := by rw [← hC2]; exact hl1
      have hD2 : D' = C2.D := by rw [← hC2]
      rw [hD2]
      repeat (first | refine GD ?_ | refine NW fun _ => ?_)
      refine WC.loop (σ := Nat) (fun i => i ≤ n)
        (fun i => [(7, .val (.pointer (some ⟨p, 0, none⟩))), (11, .val (.int .i64 1)), (12, .val (.slice xa n xc)), (97, .val (.int .i64 n)), (98, .val (.int .i64 i))])
        (fun i => [ownS xa n xc 50 3 (l.flatMap encCmd), crdA p q g (a, n, c) C2, dsk q C2.D, A]) (fun i => n - i) 0 (Nat.zero_le _) ⟨rfl, rfl, rfl, rfl, rfl, trivial⟩ II ?_
      intro i hi
      by_cases hlt : i < n
      · have hli : i < l.length := by omega
        refine WC.fact (Ent.some (Ent.own (a := xa) (n := n) (cap := xc) (T := 50) (size := 3) (cs := l.flatMap encCmd) MM) (by omega)) ?_
        rintro ⟨ob, off, rfl⟩
        have hld : ∀ {L}, ownS (some ⟨ob, off, none⟩) n xc 50 3 (l.flatMap encCmd) ∈ L → Ent L (cellsAt ob (off + i * 3) (encCmd l[i])) := fun m => Ent.elA encCmd_len (Ent.own m) hli
        generalize l[i] = ci at *
        have hca := canswer_ok p q g (a, n, c) C2 _ ci I2 (by have := I2.R.vl; omega)
        unfold AnswerCo at hca
        rw [answerC_stale (c := ci) (.inl hn2)] at hca
        repeat (first | refine GD ?_ | refine NW fun _ => ?_)
        refine WL.step rfl (OP.loadA (l := encCmd ci) rfl rfl rfl rfl (hld MM) rfl rfl rfl ?_)
        refine WL.step rfl (OP.call (pre := [crdA p q g _ C2, dsk q C2.D]) rfl rfl hca PS rfl rfl ?_)
        rintro _ _ ⟨e, E, hE, rfl, rfl⟩
        obtain ⟨y, ch, hc1, rfl, rfl⟩ := isEr_one hE (by simp)
        have his := isC_ro (y :: ch) 10 10 (by decide)
        dsimp only [valOf] at his
        repeat (first | refine GD ?_ | refine NW fun _ => ?_)
        refine WL.step rfl (OP.callRO rfl rfl his (Ent.at (up_chainR _ _) MM) rfl rfl ?_)
        repeat (first | refine GD ?_ | refine NW fun _ => ?_)
        exact ⟨i + 1, by omega, by omega, ⟨rfl, rfl, rfl, rfl, rfl, trivial⟩, II⟩
      repeat (first | refine GD ?_ | refine NW fun _ => ?_)
      refine WL.step rfl (OP.callRO rfl rfl (crounds_ro p q g (a, n, c) C2) (Ent.at (up_crdA _ _ _ _ _) MM) rfl rfl ?_)
      rw [hl2, hn2]
      repeat (first | refine GD ?_ | refine NW fun _ => ?_)
      exact ret1 rfl ⟨rfl, MM⟩
    · have hca := canswer_ok p q g (a, n, c) C1 _ (ck, cv, cn) I1 (by have := I1.R.vl; omega)
      unfold AnswerCo at hca
      rw [answerC_stale (c := (ck, cv, cn)) hst2] at hca
      repeat (first | refine GD ?_ | refine NW fun _ => ?_)
      skip
      refine WL.step rfl (OP.call (pre := [crdA p q g _ C1, dsk q C1.D]) rfl rfl hca PS rfl rfl ?_)
      rintro _ _ ⟨e, E, hE, rfl, rfl⟩
      obtain ⟨y, ch, hc1, rfl, rfl⟩ := isEr_one hE (by simp)
      have his := isC_ro (y :: ch) 10 10 (by decide)
      dsimp only [valOf] at his
      repeat (first | refine GD ?_ | refine NW fun _ => ?_)
      refine WL.step rfl (OP.callRO rfl rfl (crounds_ro p q g (a, n, c) C1) (Ent.at (up_crdA _ _ _ _ _) MM) rfl rfl ?_)
      rw [hl1, hnum1]
      repeat (first | refine GD ?_ | refine NW fun _ => ?_)
      refine WL.step rfl (OP.callRO rfl rfl his (Ent.at (up_chainR _ _) MM) rfl rfl ?_)
      repeat (first | refine GD ?_ | refine NW fun _ => ?_)
      refine WL.step rfl (OP.call (pre := [crdA p q g _ C1, dsk q C1.D, A]) rfl rfl hcr PS rfl rfl ?_)
      rintro _ _ ⟨rfl, J', D', _, er, eh, _, I2, rfl⟩
      generalize hC2 : ({ C1 with J := J', D := D', R := rnd0, marked := 0 } : Crd) = C2 at *
      have hn2 : C2.R.number = 0 := by rw [← hC2]; rfl
      have hl2 : C2.last = 1 := by rw [← hC2]; exact hl1
      have hD2 : D' = C2.D := by rw [← hC2]
      rw [hD2]
      repeat (first | refine GD ?_ | refine NW fun _ => ?_)
      refine WC.loop (σ := Nat) (fun i => i ≤ n)
        (fun i => [(7, .val (.pointer (some ⟨p, 0, none⟩))), (11, .val (.int .i64 1)), (12, .val (.slice xa n xc)), (97, .val (.int .i64 n)), (98, .val (.int .i64 i))])
        (fun i => [ownS xa n xc 50 3 (l.flatMap encCmd), crdA p q g (a, n, c) C2, dsk q C2.D, A]) (fun i => n - i) 0 (Nat.zero_le _) ⟨rfl, rfl, rfl, rfl, rfl, trivial⟩ II ?_
      intro i hi
      by_cases hlt : i < n
      · have hli : i < l.length := by omega
        refine WC.fact (Ent.some (Ent.own (a := xa) (n := n) (cap := xc) (T := 50) (size := 3) (cs := l.flatMap encCmd) MM) (by omega)) ?_
        rintro ⟨ob, off, rfl⟩
        have hld : ∀ {L}, ownS (some ⟨ob, off, none⟩) n xc 50 3 (l.flatMap encCmd) ∈ L → Ent L (cellsAt ob (off + i * 3) (encCmd l[i])) := fun m => Ent.elA encCmd_len (Ent.own m) hli
        generalize l[i] = ci at *
        have hca := canswer_ok p q g (a, n, c) C2 _ ci I2 (by have := I2.R.vl; omega)
        unfold AnswerCo at hca
        rw [answerC_stale (c := ci) (.inl hn2)] at hca
        repeat (first | refine GD ?_ | refine NW fun _ => ?_)
        refine WL.step rfl (OP.loadA (l := encCmd ci) rfl rfl rfl rfl (hld MM) rfl rfl rfl ?_)
        refine WL.step rfl (OP.call (pre := [crdA p q g _ C2, dsk q C2.D]) rfl rfl hca PS rfl rfl ?_)
        rintro _ _ ⟨e, E, hE, rfl, rfl⟩
        obtain ⟨y, ch, hc1, rfl, rfl⟩ := isEr_one hE (by simp)
        have his := isC_ro (y :: ch) 10 10 (by decide)
        dsimp only [valOf] at his
        repeat (first | refine GD ?_ | refine NW fun _ => ?_)
        refine WL.step rfl (OP.callRO rfl rfl his (Ent.at (up_chainR _ _) MM) rfl rfl ?_)
        repeat (first | refine GD ?_ | refine NW fun _ => ?_)
        exact ⟨i + 1, by omega, by omega, ⟨rfl, rfl, rfl, rfl, rfl, trivial⟩, II⟩
      repeat (first | refine GD ?_ | refine NW fun _ => ?_)
      refine WL.step rfl (OP.callRO rfl rfl (crounds_ro p q g (a, n, c) C2) (Ent.at (up_crdA _ _ _ _ _) MM) rfl rfl ?_)
      rw [hl2, hn2]
      repeat (first | refine GD ?_ | refine NW fun _ => ?_)
      exact ret1 rfl ⟨rfl, MM⟩
end Go.Proofs.YtacgheafbkfciaaGreatDoor
namespace Go.Proofs.YtacgheafbkfciaaGreatDoor
open Go Go.GL Go.ChangeShapes Go.WideShapes Go.ChangeAt Go.RowKit
open Go.ChangeMaps (open_string shut_string)
set_option linter.unusedVariables false

theorem ownCoordStale : ownKnob Tryz.prog.godebug = none := by kernel_rfl
theorem laidOutCoordStale : laidOutB Tryz.prog = true := by kernel_rfl
theorem etCoordStale : Tryz.prog.globalNamed "errors.errorType" = some 0 := by kernel_rfl
theorem rtCoordStale : (Tryz.prog.cutTypes.find? (·.1 == "internal/reflectlite.rtype")).map (·.2) = some 210 := by kernel_rfl
theorem oneRowCoordStale : ((List.range 292).filter fun t => Tryz.prog.rowNamed t [101, 114, 114, 111, 114]) = [25] := by kernel_rfl
theorem sizeCoordStale : Tryz.prog.types.size = 292 := by kernel_rfl
theorem handleCoordStale {W : World} (h : laidMetH Tryz.prog [("errors.errorType", Rows.laid_errors_errorType)] W) : W.cell? ⟨0, 0, none⟩ = some errT := by
  have h' : laidMet Tryz.prog [] W ∧ handlesMet Tryz.prog [("errors.errorType", Rows.laid_errors_errorType)] W := h
  obtain ⟨name, u, ty, e1, e2, e3, e4, e5⟩ := h'.2 _ (List.mem_singleton.2 rfl)
  have en : name = [101, 114, 114, 111, 114] := (Option.some.inj e1).symm
  subst en
  obtain rfl := Option.some.inj (rtCoordStale.symm.trans e2)
  have hm : ty ∈ (List.range 292).filter fun t => Tryz.prog.rowNamed t [101, 114, 114, 111, 114] := List.mem_filter.2 ⟨List.mem_range.2 (by rw [← sizeCoordStale]; exact e3), e4⟩
  rw [oneRowCoordStale] at hm
  obtain rfl := List.mem_singleton.1 hm
  have hh : typeHandle Tryz.prog 25 = .pointer (some ⟨1, 25, none⟩) := by kernel_rfl
  rw [hh] at e5
  have := World.var?_cell etCoordStale e5 0
  simpa [errT, rt, hd] using this
theorem cellAt_of {w : World} {b off : Nat} {v : Value} (h : w.cell? ⟨b, off, none⟩ = some v) : cellAt b off v (hpOf w) := by
  unfold World.cell? at h
  split at h
  · rename_i c T fr hb
    exact ⟨c, T, fr, hpOf_obj.2 hb, by simpa using h⟩
  · cases h
noncomputable def laidWorld (os : Os) : World :=
  let w0 := World.holding Tryz.prog os ⟨#[], #[], []⟩
  { w0 with heap := w0.heap.modify 0 fun
      | .cells _ t frozen => .cells #[.iface 210 (.agg #[.pointer (some ⟨1, 25, none⟩)])] t frozen
      | o => o }
theorem laidWorld_met (os : Os) (args : Array Value) : laidMetH Tryz.prog [("errors.errorType", Rows.laid_errors_errorType)] ((laidWorld os).forCall (fun _ _ => 0) ⟨#[], args, []⟩).memory :=
  laidMetH_of_parts (laidMet_nil _ _) (by kernel_rfl)
set_option maxRecDepth 100000 in
theorem liftedCoordStale (os : Os) (started : os.Started) (H : Type) (enc : TypeId × Value → H) :
    ReturnsInHanded {} Tryz.checked os 4 .any (fun w args => (Rows.coordStaleSpec.pre enc Tryz.prog Tryz.f4 [] false w args ∧ laidMetH Tryz.prog [("errors.errorType", Rows.laid_errors_errorType)] w) ∧ sizedMet enc Tryz.prog Tryz.f4 (OpenSpec.ofChange Rows.coordStaleSpec) false w args)
      (Rows.coordStaleSpec.post enc Tryz.prog Tryz.f4 false true false false) := by
  refine returnsInHanded_of_change_and (C := Tryz.checked) (X := fun w _ => laidMetH Tryz.prog [("errors.errorType", Rows.laid_errors_errorType)] w) (fun _ _ _ hh h => h.of_heap hh) ownCoordStale started (by kernel_rfl) Tryz.func4
    (ChangeSpec.witness_at (enc := enc) (C := Tryz.checked) (os := os) (X := fun w _ => laidMetH Tryz.prog [("errors.errorType", Rows.laid_errors_errorType)] w) false (laidWorld os) #[.slice none 0 0, .agg #[.int .i64 0, .int .i64 0, .int .i64 0], .int .u64 0] 8 rfl (by kernel_rfl) (by kernel_rfl) (by kernel_rfl) (by kernel_rfl) (by kernel_rfl) (laidWorld_met os _)) ?_
  intro W base args ds gs before hval0 hW _ _ hL _
  have hval : ∀ (j : Nat) t v, Tryz.f4.params[j]? = some t → args[j]? = some v → Value.okWide Tryz.prog W .any base t v := hval0
  have hW' := hW
  obtain ⟨p, q, hA0, hV0, rfl, hfz, hnd⟩ := hW
  have hV : DataW.TrodVars enc Tryz.prog W (fun _ => true) [] gs q := hV0
  have hE := cellAt_of (handleCoordStale hL)
  have hA : DataW.TrodAll enc Tryz.prog W 0 (fun _ => true) true Tryz.f4.params.toList args.toList ds p := hA0
  rw [Tryz.params4] at hA hval
  obtain ⟨v0, vs0, d0, ds0, p0, q0, hargs, rfl, rfl, h0, r0⟩ := trodAll_cons hA
  obtain ⟨v1, vs1, d1, ds1, p1, q1, rfl, rfl, rfl, h1, r1⟩ := trodAll_cons r0
  obtain ⟨v2, vs2, d2, ds2, p2, q2, rfl, rfl, rfl, h2, r2⟩ := trodAll_cons r1
  obtain ⟨rfl, rfl, rfl⟩ := trodAll_nil r2
  obtain rfl : args = #[v0, v1, v2] := by cases args; simp_all
  obtain ⟨rfl, rfl⟩ : gs = [] ∧ q = [] := by
    cases gs with
    | nil => exact ⟨rfl, hV⟩
    | cons g r => exact absurd hV (by intro h; cases h)
  have k0 := h0
  obtain ⟨a0, len0, cap0, rw0, rfl, hr0, hc0, hm0, ho0, R0⟩ := open_row (n := 4) (l := [.int .i64]) Tryz.underlying39 (by kernel_rfl) (by kernel_rfl) (hval 0 39 v0 rfl rfl) h0
  obtain ⟨l0, hl0, hn0, w0⟩ := rows_ints ho0
  rw [hl0] at R0
  rw [hr0] at hn0
  have k1 := h1
  obtain ⟨c1, rfl, lo1⟩ := open_val (n := 8) (l := [.int .i64, .int .i64, .int .i64]) Tryz.underlying47 (by kernel_rfl) (hval 1 47 v1 rfl rfl) h1
  obtain ⟨o1, rfl, w1⟩ := cmd_of lo1
  have k2 := h2
  obtain ⟨a2, rfl, _, _, w2⟩ := open_int Tryz.underlying34 (hval 2 34 v2 rfl rfl) h2
  clear hA0 hval0
  refine ((cstale_ro a0 len0 cap0 l0 o1 a2 hn0.symm (by have := wf_u64 w2; omega)).calls W R0).mono fun e W' ⟨he, ext⟩ => ?_
  subst he
  exact ⟨_, rfl, _, _, _, [], _, [], hW', trodAll_mk1 (shut_bool Tryz.underlying4 _), (trodAll_cons_mk (GL.Ext.trod laidOutCoordStale (by kernel_rfl) (of_decide_eq_true (by kernel_rfl)) k0 ext) (trodAll_cons_mk (GL.Ext.trod laidOutCoordStale (by kernel_rfl) (of_decide_eq_true (by kernel_rfl)) k1 ext) (trodAll_cons_mk (GL.Ext.trod laidOutCoordStale (by kernel_rfl) (of_decide_eq_true (by kernel_rfl)) k2 ext) trodAll_mk0))), rfl, ext.keptBut _, fun h => by cases h⟩
theorem overCoordStale : Rows.coordStaleRow.holds Tryz.pinned (OpenSpec.ofChange Rows.coordStaleSpec) :=
  OpenClaim.holds_of_wide 4 Tryz.f4 rfl rfl rfl rfl rfl rfl rfl ⟨rfl, rfl, rfl, rfl, rfl⟩ rfl rfl rfl rfl rfl (by kernel_rfl) Tryz.func4 (by kernel_rfl)
    (of_decide_eq_true (by kernel_rfl)) (by unfold Func.isWrapper; first | (rw [if_pos (by decide +kernel)]; kernel_rfl) | (rw [if_neg (by decide +kernel)]; exact ⟨rfl, rfl⟩))
    (fun os started H enc _ => liftedCoordStale os started H enc)
theorem coordStale_holds : Rows.CoordStaleCardSaid :=
  Claim7.holds_tied_plain_at .later [] [.handle] true (true, "2a5c7e5f3b750eb576d77ceb39ddbca393adcc0aca4bd66b40c34330f929cff8") true
    overCoordStale (fun _ h => by cases h) (by kernel_rfl) (fun _ h => by cases h) coordStale_row_tie rfl ⟨rfl, rfl⟩ (by kernel_rfl) rfl
    (fun f fn hf hfn => by
      obtain rfl : f = 4 := Option.some.inj ((show Tryz.prog.funcNamed Rows.coordStaleRow.func = some 4 by kernel_rfl).symm.trans hf) |>.symm
      obtain rfl : fn = Tryz.f4 := (Option.some.inj (Tryz.func4.symm.trans hfn)).symm
      exact ⟨by kernel_rfl, fun j t ht => by
        rw [Tryz.params4] at ht
        match j, ht with
        | 0, ht => obtain rfl : 39 = t := by simpa using ht
                   exact (show Tryz.prog.wantsStandIn 39 = false by kernel_rfl)
        | 1, ht => obtain rfl : 47 = t := by simpa using ht
                   exact (show Tryz.prog.wantsStandIn 47 = false by kernel_rfl)
        | 2, ht => obtain rfl : 34 = t := by simpa using ht
                   exact (show Tryz.prog.wantsStandIn 34 = false by kernel_rfl)
        | (k + 3), ht => simp at ht⟩)
    (by kernel_rfl)
end Go.Proofs.YtacgheafbkfciaaGreatDoor
