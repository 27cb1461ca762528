/-
  The law MarksNil holds: whatever the input, the Go function returns true, and each argument reads as it did. Conditions: none beyond the statement's own.
-/
import Derived.Test.YtacgheafbkfciaaDoorZMK4
import Derived.Test.YtacgheafbkfciaaDoorZMK8
import Derived.Test.YtacgheafbkfciaaDoorZMK6
import Derived.Test.YtacgheafbkfciaaDoorRows
import Derived.Test.YtacgheafbkfciaaDoorTie
import Derived.Test.YtacgheafbkfciaaDoorCards
import Derived.Test.YtacgheafbkfciaaDoorZMK3
import Derived.ChangeSame
import Derived.ChangeVars
import Derived.JoinedOf
import Derived.RowKit
import Derived.RowKitTokens
import Derived.LaidLaws
import Derived.LaidHandle
import Derived.Stop.Joined
import Derived.SevenTiedAt
/- Contracts of functions of the given program, and plain laws on what they compute: parts of the proofs of laws. -/

namespace Go.Proofs.YtacgheafbkfciaaDoor
open Go Go.GL

def FaultR (b : Nat) (op : ByteArray) (at_ c : Int) : Assn := fun h => ErrT h ∧ cellsAt b 0 (faultCells op at_ c) h
theorem up_FaultR (b : Nat) (op : ByteArray) (at_ c : Int) : Up (FaultR b op at_ c) := up_and up_ErrT (up_cellsAt _ _ _)
set_option maxRecDepth 10000 in
theorem code_nil : RO G 7 [.nilIface] (fun _ => True) (.int .i64 0) := by
  refine RO.enter Tryd.func7 rfl (by decide) rfl Tryd.ntmps7 rfl (fun A hu hA => ?_) (fun _ _ _ h => h)
  repeat (first | refine GO ?_ | refine NW fun _ => ?_)
  refine WL.step rfl (OP.callRO rfl rfl (as_nil _) (fun _ _ => trivial) rfl rfl ?_)
  repeat (first | refine GO ?_ | refine NW fun _ => ?_)
  exact ret1 rfl ⟨rfl, MM⟩
set_option maxRecDepth 10000 in
theorem code_fault (b : Nat) (op : ByteArray) (at_ c : Int) : RO G 7 [.iface 63 (.pointer (some ⟨b, 0, none⟩))] (FaultR b op at_ c) (.int .i64 c) := by
  refine RO.enter Tryd.func7 rfl (by decide) rfl Tryd.ntmps7 rfl (fun A hu hA => ?_) (up_FaultR _ _ _ _)
  repeat (first | refine GO ?_ | refine NW fun _ => ?_)
  rename_i p
  refine WL.step rfl (OP.call (pre := [blk p [.int .i64 0] 26, A]) rfl rfl (as_code b p op at_ c (.int .i64 0) A hu (fun h x => (hA h x).1) (fun h x => (hA h x).2)) PS rfl rfl ?_)
  rintro _ _ ⟨rfl, rfl⟩
  repeat (first | refine GO ?_ | refine NW fun _ => ?_)
  exact ret1 rfl ⟨rfl, MM⟩
def Ptrs (l : List Value) (v : Value) (E : List Assn) : Prop := ∃ a cap, v = .slice a l.length cap ∧ E = [ownS a l.length cap 63 1 l]
set_option maxRecDepth 10000 in
theorem faults_nil : RT G 24 [.nilIface] (fun _ => True) (fun v E => v = .slice none 0 0 ∧ E = []) := by
  refine RT.enter Tryd.func24 rfl (by decide) rfl Tryd.ntmps24 rfl (fun A hu hA => ?_)
  repeat (first | refine GO ?_ | refine NW fun _ => ?_)
  rename_i p
  refine WC.loop (σ := Unit) (fun _ => True) (fun _ => [(0, .val .nilIface), (3, .val (.slice none 0 0)), (4, .val (.pointer (some ⟨p, 0, none⟩)))]) (fun _ => [A]) (fun _ => 0) () trivial ⟨rfl, rfl, rfl, trivial⟩ II ?_
  rintro _ _
  repeat (first | refine GO ?_ | refine NW fun _ => ?_)
  refine WL.step rfl (OP.callRO rfl rfl (as_nil _) (fun _ _ => trivial) rfl rfl ?_)
  repeat (first | refine GO ?_ | refine NW fun _ => ?_)
  exact ret1 rfl ⟨[], ⟨rfl, rfl⟩, II⟩
set_option maxHeartbeats 1000000 in
set_option maxRecDepth 10000 in
theorem faults_one (b : Nat) (op : ByteArray) (at_ c : Int) : RT G 24 [.iface 63 (.pointer (some ⟨b, 0, none⟩))] (FaultR b op at_ c) (Ptrs [.pointer (some ⟨b, 0, none⟩)]) := by
  refine RT.enter Tryd.func24 rfl (by decide) rfl Tryd.ntmps24 rfl (fun A hu hA => ?_)
  repeat (first | refine GO ?_ | refine NW fun _ => ?_)
  rename_i p
  refine WC.imp (Imp.nilS 63 1) ?_
  refine WC.loop (σ := Bool × Option Addr × Nat) (fun s => s.1 = true → s.2.1 = none ∧ s.2.2 = 0) (fun s => match s.1 with
      | true => [(0, .val (.iface 63 (.pointer (some ⟨b, 0, none⟩)))), (3, .val (.slice none 0 0)), (4, .val (.pointer (some ⟨p, 0, none⟩)))]
      | false => [(0, .val (.iface 26 (.int .i64 c))), (3, .val (.slice s.2.1 1 s.2.2)), (4, .val (.pointer (some ⟨p, 0, none⟩)))])
    (fun s => match s.1 with
      | true => [blk p [.pointer none] 63, ownS none 0 0 63 1 [], A]
      | false => [blk p [.pointer (some ⟨b, 0, none⟩)] 63, ownS s.2.1 1 s.2.2 63 1 [.pointer (some ⟨b, 0, none⟩)], A])
    (fun s => match s.1 with | true => 1 | false => 0) (true, none, 0) (fun _ => ⟨rfl, rfl⟩) ⟨rfl, rfl, rfl, trivial⟩ II ?_
  rintro ⟨s, a, cap⟩ hs
  cases s
  · dsimp only at hs ⊢
    repeat (first | refine GO ?_ | refine NW fun _ => ?_)
    refine WL.step rfl (OP.call (pre := [blk p [.pointer (some ⟨b, 0, none⟩)] 63, A]) rfl rfl (as_faultsN p c _ A hu (fun h x => (hA h x).1)) PS rfl rfl ?_)
    rintro _ _ ⟨rfl, rfl⟩
    repeat (first | refine GO ?_ | refine NW fun _ => ?_)
    exact ret1 rfl ⟨[_], ⟨a, cap, rfl, rfl⟩, II⟩
  · dsimp only at hs ⊢
    repeat (first | refine GO ?_ | refine NW fun _ => ?_)
    refine WL.step rfl (OP.call (pre := [blk p [.pointer none] 63, A]) rfl rfl (as_faults b p _ A hu (fun h x => (hA h x).1)) PS rfl rfl ?_)
    rintro _ _ ⟨rfl, rfl⟩
    repeat (first | refine GO ?_ | refine NW fun _ => ?_)
    refine WL.step rfl (OP.append rfl rfl rfl rfl rfl rfl rfl rfl rfl P1 (Ent.own MM) rfl (by decide) (by decide) rfl rfl (fun a2 cap2 => ?_))
    repeat (first | refine GO ?_ | refine NW fun _ => ?_)
    refine WL.step rfl (OP.load1 (v := .iface 26 (.int .i64 c)) rfl rfl rfl rfl (Ent.mem (A := A) MM hu (fun h x => cellsAt_one (i := 2) (hA h x).2 rfl)) rfl rfl ?_)
    repeat (first | refine GO ?_ | refine NW fun _ => ?_)
    exact ⟨(false, a2, cap2), (fun h => nomatch h), Nat.zero_lt_one, ⟨rfl, rfl, rfl, trivial⟩, II⟩
set_option maxHeartbeats 1000000 in
set_option maxRecDepth 10000 in
theorem first_nil (op : ByteArray) : RO G 13 [.nilIface, .string op] (fun _ => True) (.tuple #[.int .i64 0, .bool false]) := by
  refine RO.enter Tryd.func13 rfl (by decide) rfl Tryd.ntmps13 rfl (fun A hu hA => ?_) (fun _ _ _ h => h)
  repeat (first | refine GO ?_ | refine NW fun _ => ?_)
  refine WL.step rfl (OP.callRT rfl rfl faults_nil (fun _ _ => trivial) rfl rfl ?_)
  rintro v E ⟨rfl, rfl⟩
  repeat (first | refine GO ?_ | refine NW fun _ => ?_)
  refine WC.loop (σ := Unit) (fun _ => True) (fun _ => [(10, .val (.int .i64 0)), (11, .val (.int .i64 0))]) (fun _ => [A]) (fun _ => 0) () trivial ⟨rfl, rfl, trivial⟩ II ?_
  rintro _ _
  repeat (first | refine GD ?_ | refine NW fun _ => ?_)
  exact ret2 rfl rfl ⟨rfl, MM⟩
set_option maxHeartbeats 1000000 in
set_option maxRecDepth 10000 in
theorem first_fault (b : Nat) (op op' : ByteArray) (at_ c : Int) : RO G 13 [.iface 63 (.pointer (some ⟨b, 0, none⟩)), .string op'] (FaultR b op at_ c) (if op = op' then .tuple #[.int .i64 at_, .bool true] else .tuple #[.int .i64 0, .bool false]) := by
  refine RO.enter Tryd.func13 rfl (by decide) rfl Tryd.ntmps13 rfl (fun A hu hA => ?_) (up_FaultR _ _ _ _)
  repeat (first | refine GO ?_ | refine NW fun _ => ?_)
  refine WL.step rfl (OP.callRT rfl rfl (faults_one b op at_ c) (Ent.mem MM hu hA) rfl rfl ?_)
  rintro v E ⟨a, cap, rfl, rfl⟩
  refine WL.fact (Ent.some (Ent.own (a := a) (n := 1) (cap := cap) (T := 63) (size := 1) (cs := [.pointer (some ⟨b, 0, none⟩)]) MM) (by decide)) ?_
  rintro ⟨b2, off2, rfl⟩
  repeat (first | refine GO ?_ | refine NW fun _ => ?_)
  refine WC.loop (σ := Nat) (fun k => k ≤ 1 ∧ (k = 1 → op ≠ op')) (fun k => [(1, .val (.string op')), (9, .val (.slice (some ⟨b2, off2, none⟩) 1 cap)), (10, .val (.int .i64 1)), (11, .val (.int .i64 k))]) (fun _ => [ownS (some ⟨b2, off2, none⟩) 1 cap 63 1 [.pointer (some ⟨b, 0, none⟩)], A]) (fun k => 1 - k) 0 ⟨by decide, (fun h => absurd h (by decide))⟩ ⟨rfl, rfl, rfl, rfl, trivial⟩ II ?_
  rintro k ⟨hk, hne⟩
  obtain rfl | rfl : k = 0 ∨ k = 1 := by omega
  · repeat (first | refine GD ?_ | refine NW fun _ => ?_)
    refine WL.step rfl (OP.load1 (v := .pointer (some ⟨b, 0, none⟩)) rfl rfl rfl rfl (Ent.elem (i := 0) (Ent.own (T := 63) MM) rfl rfl) rfl rfl ?_)
    repeat (first | refine GD ?_ | refine NW fun _ => ?_)
    refine WL.step rfl (OP.load1 (v := .string op) rfl rfl rfl rfl (Ent.mem (A := A) MM hu (fun h x => cellsAt_one (i := 0) (hA h x).2 rfl)) rfl rfl ?_)
    by_cases ho : op = op'
    · rw [if_pos ho]
      repeat (first | refine GD ?_ | refine NW fun _ => ?_)
      refine WL.step rfl (OP.load1 (v := .int .i64 at_) rfl rfl rfl rfl (Ent.mem (A := A) MM hu (fun h x => cellsAt_one (i := 1) (hA h x).2 rfl)) rfl rfl ?_)
      repeat (first | refine GD ?_ | refine NW fun _ => ?_)
      exact ret2 rfl rfl ⟨rfl, MM⟩
    · rw [if_neg ho]
      repeat (first | refine GD ?_ | refine NW fun _ => ?_)
      exact ⟨1, ⟨by decide, fun _ => ho⟩, by decide, ⟨rfl, rfl, rfl, rfl, trivial⟩, Imp.refl _⟩
  · rw [if_neg (hne rfl)]
    repeat (first | refine GD ?_ | refine NW fun _ => ?_)
    exact ret2 rfl rfl ⟨rfl, MM⟩
end Go.Proofs.YtacgheafbkfciaaDoor
/- Contracts of functions of the given program, and plain laws on what they compute: parts of the proofs of laws. -/

namespace Go.Proofs.YtacgheafbkfciaaDoor
open Go Go.GL

def chainE (ch : Chain) (c : Int) : Assn := fun h => ErrT h ∧ chainR ch c h
theorem up_chainE (ch : Chain) (c : Int) : Up (chainE ch c) := up_and up_ErrT (up_chainR ch c)
set_option maxRecDepth 10000 in
theorem unwrapC_ro (b : Nat) (op : ByteArray) (at_ : Int) (v : Value) : RO G 78 [.pointer (some ⟨b, 0, none⟩)] (cellsAt b 0 [.string op, .int .i64 at_, v]) v := by
  refine RO.enter Tryd.func78 rfl (by decide) rfl Tryd.ntmps78 rfl (fun A hu hA => ?_) (up_cellsAt _ _ _)
  repeat (first | refine GO ?_ | refine NW fun _ => ?_)
  refine WL.step rfl (OP.load1 (v := v) rfl rfl rfl rfl (Ent.mem (A := A) MM hu (fun h x => cellsAt_one (i := 2) (hA h x) rfl)) rfl rfl ?_)
  repeat (first | refine GO ?_ | refine NW fun _ => ?_)
  exact ret1 rfl ⟨rfl, MM⟩
set_option maxHeartbeats 4000000 in
set_option maxRecDepth 10000 in
theorem asN_chain (p q : Nat) (c : Int) (old : Value) (A : Assn) (hu : Up A) (ch : Chain) (hA : ∀ h, A h → chainR ch c h) :
    Triple G 31 [valOf ch c, .iface 55 (.pointer (some ⟨p, 0, none⟩)), .agg #[hd 55, .pointer (some ⟨q, 0, none⟩), .int .u64 150], rt 26] [blk p [old] 26, blk q [.pointer (some ⟨p, 0, none⟩)] 55, A] (fun v M => v = .bool true ∧ M = [blk p [.int .i64 c] 26, A]) := by
  refine Triple.enter Tryd.func31 rfl (by decide) rfl Tryd.ntmps31 rfl (fun X => ?_)
  repeat (first | refine GO ?_ | refine NW fun _ => ?_)
  rename_i bx
  refine WC.loop (σ := Chain) (fun s => ∀ h, A h → chainR s c h) (fun s => [(0, .val (valOf s c)), (1, .val (.iface 55 (.pointer (some ⟨p, 0, none⟩)))), (3, .val (rt 26)), (6, .val (.pointer (some ⟨bx, 0, none⟩))), (8, .val (.bool false))])
    (fun _ => [blk bx [hd 55, .pointer (some ⟨q, 0, none⟩), .int .u64 150] 72, blk p [old] 26, blk q [.pointer (some ⟨p, 0, none⟩)] 55, A, X]) (fun s => s.length) ch hA ⟨rfl, rfl, rfl, rfl, rfl, trivial⟩ II ?_
  rintro s hs
  cases s with
  | nil =>
    repeat (first | refine GD ?_ | refine NW fun _ => ?_)
    refine WL.step rfl (OP.extP (.call xTypeOf rfl rfl) (fun w _ => typeOfN _ w) rfl rfl ?_)
    repeat (first | refine GD ?_ | refine NW fun _ => ?_)
    refine WL.step rfl (OP.extP (.inv xAssignableTo rfl rfl rfl (fun w => mAssignableTo _ w)) (fun w _ => assignNN w) rfl rfl ?_)
    repeat (first | refine GD ?_ | refine NW fun _ => ?_)
    refine WL.step rfl (OP.extP (.call xElemV rfl rfl) (fun w s => elemVNP _ ⟨p, 0, none⟩ w (cell_of_blk0 (b := q) s MM rfl)) rfl rfl ?_)
    repeat (first | refine GD ?_ | refine NW fun _ => ?_)
    refine WL.step rfl (OP.extNew (mk := (fun n => .agg #[hd 26, .pointer (some ⟨n, 0, none⟩), .int .u64 130])) (.call xValueOf rfl rfl) (fun w _ => valueOfN _ w) rfl rfl (fun q2 => ?_))
    repeat (first | refine GD ?_ | refine NW fun _ => ?_)
    refine WL.step rfl (OP.extSet (.call xSet rfl rfl) (fun w s => setN ⟨p, 0, none⟩ ⟨q2, 0, none⟩ c old w (cell_of_blk0 (b := q2) s MM rfl) (cell_of_blk0 (b := p) s MM rfl) (Sat.notFrozen (b := p) (c := [old]) (T := 26) s MM (Nat.zero_lt_succ _))) (by repeat (first | exact Upd.here _ _ _ _ _ | apply Upd.there)) rfl rfl ?_)
    repeat (first | refine GD ?_ | refine NW fun _ => ?_)
    exact ret1 rfl ⟨_, ⟨rfl, rfl⟩, II⟩
  | cons x r =>
    repeat (first | refine GD ?_ | refine NW fun _ => ?_)
    refine WL.step rfl (OP.extP (.call xTypeOf rfl rfl) (fun w _ => typeOfF _ w) rfl rfl ?_)
    repeat (first | refine GD ?_ | refine NW fun _ => ?_)
    refine WL.step rfl (OP.extP (.inv xAssignableTo rfl rfl rfl (fun w => mAssignableTo _ w)) (fun w _ => assignFN w) rfl rfl ?_)
    repeat (first | refine GD ?_ | refine NW fun _ => ?_)
    refine WL.step rfl (OP.assert rfl rfl (fun w => assertFIA _ w) rfl rfl ?_)
    repeat (first | refine GD ?_ | refine NW fun _ => ?_)
    refine WL.step rfl (OP.assert rfl rfl (fun w => assertFIU _ w) rfl rfl ?_)
    repeat (first | refine GD ?_ | refine NW fun _ => ?_)
    refine WL.step rfl (OP.invRO rfl rfl (fun w => mUnwrap _ w) (unwrapC_ro x.1 x.2.1 x.2.2 (valOf r c)) (Ent.mem (A := A) MM hu (fun h a => (hs h a).1)) rfl rfl ?_)
    cases r with
    | nil =>
      repeat (first | refine GD ?_ | refine NW fun _ => ?_)
      exact ⟨[], (fun h a => (hs h a).2), by simp, ⟨rfl, rfl, rfl, rfl, rfl, trivial⟩, II⟩
    | cons y r =>
      repeat (first | refine GD ?_ | refine NW fun _ => ?_)
      exact ⟨y :: r, (fun h a => (hs h a).2), by simp, ⟨rfl, rfl, rfl, rfl, rfl, trivial⟩, II⟩
set_option maxHeartbeats 4000000 in
set_option maxRecDepth 10000 in
theorem as_codeC (p : Nat) (c : Int) (old : Value) (A : Assn) (hu : Up A) (ch : Chain) (hA : ∀ h, A h → chainE ch c h) :
    Triple G 20 [valOf ch c, .iface 55 (.pointer (some ⟨p, 0, none⟩))] ([blk p [old] 26, A]) (fun v M => v = .bool true ∧ M = [blk p [.int .i64 c] 26, A]) := by
  refine Triple.enter Tryd.func20 rfl (by decide) rfl Tryd.ntmps20 rfl (fun F => ?_)
  have hE : ∀ h, A h → ErrT h := fun h a => (hA h a).1
  have hN := fun p q old => asN_chain p q c old A hu ch (fun h a => (hA h a).2)
  cases ch with
  | nil =>
    repeat (first | refine GO ?_ | refine NW fun _ => ?_)
    refine WL.step rfl (OP.extNew (mk := fun n => .agg #[hd 55, .pointer (some ⟨n, 0, none⟩), .int .u64 150]) (.call xValueOf rfl rfl) (fun w _ => valueOfNP _ w) rfl rfl (fun q => ?_))
    repeat (first | refine GO ?_ | refine NW fun _ => ?_)
    refine WL.step rfl (OP.extP (.call xType rfl rfl) (fun w _ => typeNP _ w) rfl rfl ?_)
    repeat (first | refine GO ?_ | refine NW fun _ => ?_)
    refine WL.step rfl (OP.extP (.inv xKind rfl rfl rfl (fun w => mKind _ w)) (fun w _ => kindNP w) rfl rfl ?_)
    repeat (first | refine GO ?_ | refine NW fun _ => ?_)
    refine WL.guardT rfl rfl rfl rfl (OP.extP (.call xIsNil rfl rfl) (fun w s => isNilNP _ ⟨p, 0, none⟩ w (cell_of_blk0 (b := q) s MM rfl)) rfl rfl ?_)
    repeat (first | refine GO ?_ | refine NW fun _ => ?_)
    refine WL.step rfl (OP.extP (.inv xElem rfl rfl rfl (fun w => mElem _ w)) (fun w _ => elemNP w) rfl rfl ?_)
    repeat (first | refine GO ?_ | refine NW fun _ => ?_)
    refine WL.step rfl (OP.extP (.inv xKind rfl rfl rfl (fun w => mKind _ w)) (fun w _ => kindN w) rfl rfl ?_)
    repeat (first | refine GO ?_ | refine NW fun _ => ?_)
    refine WL.guardT rfl rfl rfl rfl (OP.load1 (v := errT) rfl rfl rfl rfl (Ent.mem (A := A) MM hu hE) rfl rfl ?_)
    repeat (first | refine GO ?_ | refine NW fun _ => ?_)
    refine WL.guardT rfl rfl rfl rfl (OP.extP (.inv xImplements rfl rfl rfl (fun w => mImplements _ w)) (fun w _ => implementsN w) rfl rfl ?_)
    repeat (first | refine GO ?_ | refine NW fun _ => ?_)
    refine WL.step rfl (OP.call (pre := [blk p [old] 26, blk q [.pointer (some ⟨p, 0, none⟩)] 55, A]) rfl rfl (hN p q old) PS rfl rfl ?_)
    rintro _ _ ⟨rfl, rfl⟩
    repeat (first | refine GO ?_ | refine NW fun _ => ?_)
    exact ret1 rfl ⟨_, ⟨rfl, rfl⟩, II⟩
  | cons x r =>
    repeat (first | refine GO ?_ | refine NW fun _ => ?_)
    refine WL.step rfl (OP.extNew (mk := fun n => .agg #[hd 55, .pointer (some ⟨n, 0, none⟩), .int .u64 150]) (.call xValueOf rfl rfl) (fun w _ => valueOfNP _ w) rfl rfl (fun q => ?_))
    repeat (first | refine GO ?_ | refine NW fun _ => ?_)
    refine WL.step rfl (OP.extP (.call xType rfl rfl) (fun w _ => typeNP _ w) rfl rfl ?_)
    repeat (first | refine GO ?_ | refine NW fun _ => ?_)
    refine WL.step rfl (OP.extP (.inv xKind rfl rfl rfl (fun w => mKind _ w)) (fun w _ => kindNP w) rfl rfl ?_)
    repeat (first | refine GO ?_ | refine NW fun _ => ?_)
    refine WL.guardT rfl rfl rfl rfl (OP.extP (.call xIsNil rfl rfl) (fun w s => isNilNP _ ⟨p, 0, none⟩ w (cell_of_blk0 (b := q) s MM rfl)) rfl rfl ?_)
    repeat (first | refine GO ?_ | refine NW fun _ => ?_)
    refine WL.step rfl (OP.extP (.inv xElem rfl rfl rfl (fun w => mElem _ w)) (fun w _ => elemNP w) rfl rfl ?_)
    repeat (first | refine GO ?_ | refine NW fun _ => ?_)
    refine WL.step rfl (OP.extP (.inv xKind rfl rfl rfl (fun w => mKind _ w)) (fun w _ => kindN w) rfl rfl ?_)
    repeat (first | refine GO ?_ | refine NW fun _ => ?_)
    refine WL.guardT rfl rfl rfl rfl (OP.load1 (v := errT) rfl rfl rfl rfl (Ent.mem (A := A) MM hu hE) rfl rfl ?_)
    repeat (first | refine GO ?_ | refine NW fun _ => ?_)
    refine WL.guardT rfl rfl rfl rfl (OP.extP (.inv xImplements rfl rfl rfl (fun w => mImplements _ w)) (fun w _ => implementsN w) rfl rfl ?_)
    repeat (first | refine GO ?_ | refine NW fun _ => ?_)
    refine WL.step rfl (OP.call (pre := [blk p [old] 26, blk q [.pointer (some ⟨p, 0, none⟩)] 55, A]) rfl rfl (hN p q old) PS rfl rfl ?_)
    rintro _ _ ⟨rfl, rfl⟩
    repeat (first | refine GO ?_ | refine NW fun _ => ?_)
    exact ret1 rfl ⟨_, ⟨rfl, rfl⟩, II⟩
set_option maxRecDepth 10000 in
theorem codeC (ch : Chain) (c : Int) : RO G 7 [valOf ch c] (chainE ch c) (.int .i64 c) := by
  refine RO.enter Tryd.func7 rfl (by decide) rfl Tryd.ntmps7 rfl (fun A hu hA => ?_) (up_chainE _ _)
  repeat (first | refine GO ?_ | refine NW fun _ => ?_)
  rename_i p
  refine WL.step rfl (OP.call (pre := [blk p [.int .i64 0] 26, A]) rfl rfl (as_codeC p c (.int .i64 0) A hu ch hA) PS rfl rfl ?_)
  rintro _ _ ⟨rfl, rfl⟩
  repeat (first | refine GO ?_ | refine NW fun _ => ?_)
  exact ret1 rfl ⟨rfl, MM⟩
def ptrOf (x : Nat × ByteArray × Int) : Value := .pointer (some ⟨x.1, 0, none⟩)
theorem asFN (p : Nat) (ch : Chain) (c : Int) (old : Value) (A : Assn) (hu : Up A) (hA : ∀ h, A h → ErrT h) :
    Triple G 20 [valOf ch c, .iface 82 (.pointer (some ⟨p, 0, none⟩))] ([blk p [old] 63, A]) (fun v M => match ch with
      | [] => v = .bool false ∧ M = [blk p [old] 63, A]
      | x :: _ => v = .bool true ∧ M = [blk p [ptrOf x] 63, A]) := by
  cases ch with
  | nil => exact as_faultsN p c old A hu hA
  | cons x r => exact as_faults x.1 p old A hu hA
set_option maxHeartbeats 1000000 in
set_option maxRecDepth 10000 in
theorem faultsC (ch : Chain) (c : Int) (hl : ch.length < 1000) : RT G 24 [valOf ch c] (chainE ch c) (Ptrs (ch.map ptrOf)) := by
  refine RT.enter Tryd.func24 rfl (by decide) rfl Tryd.ntmps24 rfl (fun A hu hA => ?_)
  repeat (first | refine GO ?_ | refine NW fun _ => ?_)
  rename_i p
  refine WC.imp (Imp.nilS 63 1) ?_
  refine WC.loop (σ := Chain × Chain × Value × Option Addr × Nat) (fun s => s.1 ++ s.2.1 = ch ∧ ∀ h, A h → chainR s.2.1 c h)
    (fun s => [(0, .val (valOf s.2.1 c)), (3, .val (.slice s.2.2.2.1 s.1.length s.2.2.2.2)), (4, .val (.pointer (some ⟨p, 0, none⟩)))])
    (fun s => [blk p [s.2.2.1] 63, ownS s.2.2.2.1 s.1.length s.2.2.2.2 63 1 (s.1.map ptrOf), A])
    (fun s => s.2.1.length) ([], ch, .pointer none, none, 0) ⟨rfl, fun h a => (hA h a).2⟩ ⟨rfl, rfl, rfl, trivial⟩ II ?_
  rintro ⟨d, r, old, a, cap⟩ ⟨hd, hr⟩
  dsimp only at hd hr ⊢
  have hE : ∀ h, A h → ErrT h := fun h a => (hA h a).1
  cases r with
  | nil =>
    rw [List.append_nil] at hd
    subst hd
    repeat (first | refine GO ?_ | refine NW fun _ => ?_)
    refine WL.step rfl (OP.call (pre := [blk p [old] 63, A]) rfl rfl (as_faultsN p c _ A hu hE) PS rfl rfl ?_)
    rintro _ _ ⟨rfl, rfl⟩
    repeat (first | refine GO ?_ | refine NW fun _ => ?_)
    exact ret1 rfl ⟨[_], ⟨a, cap, by rw [List.length_map], by rw [List.length_map]⟩, II⟩
  | cons x r =>
    have hdl : d.length < 1000 := by rw [← hd, List.length_append] at hl; omega
    repeat (first | refine GO ?_ | refine NW fun _ => ?_)
    refine WL.step rfl (OP.call (pre := [blk p [old] 63, A]) rfl rfl (as_faults x.1 p _ A hu hE) PS rfl rfl ?_)
    rintro _ _ ⟨rfl, rfl⟩
    repeat (first | refine GO ?_ | refine NW fun _ => ?_)
    refine WL.step rfl (OP.append rfl rfl rfl rfl rfl rfl rfl rfl rfl P1 (Ent.own MM) rfl (by omega) (by omega) rfl rfl (fun a2 cap2 => ?_))
    repeat (first | refine GO ?_ | refine NW fun _ => ?_)
    refine WL.step rfl (OP.load1 (v := valOf r c) rfl rfl rfl rfl (Ent.mem (A := A) MM hu (fun h y => cellsAt_one (i := 2) (hr h y).1 rfl)) rfl rfl ?_)
    repeat (first | refine GO ?_ | refine NW fun _ => ?_)
    exact ⟨(d ++ [x], r, .pointer (some ⟨x.1, 0, none⟩), a2, cap2), ⟨by rw [← hd]; simp, fun h a => (hr h a).2⟩, by dsimp only; simp, ⟨rfl, by rw [List.length_append]; rfl, rfl, trivial⟩, by rw [List.length_append, List.map_append]; exact II⟩
/-- the outermost one of a name -/
def firstC (op : ByteArray) : List (ByteArray × Int) → Option Int
  | [] => none
  | x :: r => if x.1 = op then some x.2 else firstC op r
def firstV (o : Option Int) : Value := match o with
  | some n => .tuple #[.int .i64 n, .bool true]
  | none => .tuple #[.int .i64 0, .bool false]
theorem chainR_get : ∀ {ch : Chain} {c : Int} {h : Hp}, chainR ch c h → ∀ k (hk : k < ch.length), ∃ v, cellsAt ch[k].1 0 [.string ch[k].2.1, .int .i64 ch[k].2.2, v] h
  | x :: r, c, h, hh, 0, _ => ⟨_, hh.1⟩
  | x :: r, c, h, hh, k + 1, hk => chainR_get hh.2 k (by simpa using hk)
theorem cellsAt_pre {b off : Nat} {l m : List Value} {h : Hp} (x : cellsAt b off (l ++ m) h) : cellsAt b off l h := by
  obtain ⟨c, T, fr, hb, hc⟩ := x
  exact ⟨c, T, fr, hb, fun i v hi => hc i v (by rw [List.getElem?_append_left (List.getElem?_eq_some_iff.1 hi).1]; exact hi)⟩
set_option maxHeartbeats 1000000 in
set_option maxRecDepth 10000 in
theorem firstC_ro (ch : Chain) (c : Int) (op : ByteArray) (hl : ch.length < 1000) : RO G 13 [valOf ch c, .string op] (chainE ch c) (firstV (firstC op (ch.map Prod.snd))) := by
  refine RO.enter Tryd.func13 rfl (by decide) rfl Tryd.ntmps13 rfl (fun A hu hA => ?_) (up_chainE _ _)
  repeat (first | refine GO ?_ | refine NW fun _ => ?_)
  refine WL.step rfl (OP.callRT rfl rfl (faultsC ch c hl) (Ent.mem MM hu hA) rfl rfl ?_)
  rintro v E ⟨a, cap, rfl, rfl⟩
  rw [List.length_map]
  repeat (first | refine GO ?_ | refine NW fun _ => ?_)
  refine WC.loop (σ := Nat) (fun k => k ≤ ch.length ∧ firstC op (ch.map Prod.snd) = firstC op ((ch.drop k).map Prod.snd)) (fun k => [(1, .val (.string op)), (9, .val (.slice a ch.length cap)), (10, .val (.int .i64 ch.length)), (11, .val (.int .i64 k))]) (fun _ => [ownS a ch.length cap 63 1 (ch.map ptrOf), A]) (fun k => ch.length - k) 0 ⟨Nat.zero_le _, rfl⟩ ⟨rfl, rfl, rfl, rfl, trivial⟩ II ?_
  rintro k ⟨hk, hf⟩
  by_cases hlt : k < ch.length
  rotate_left
  · rw [List.drop_eq_nil_of_le (by omega)] at hf
    rw [hf]
    repeat (first | refine GD ?_ | refine NW fun _ => ?_)
    exact ret2 rfl rfl ⟨rfl, MM⟩
  rw [List.drop_eq_getElem_cons hlt, List.map_cons] at hf
  refine WC.fact (Ent.some (Ent.own (a := a) (n := ch.length) (cap := cap) (T := 63) (size := 1) (cs := ch.map ptrOf) MM) (by omega)) ?_
  rintro ⟨b2, off2, rfl⟩
  have hg : ∀ {L}, A ∈ L → Ent L (cellsAt ch[k].1 0 [.string ch[k].2.1, .int .i64 ch[k].2.2]) := fun m => Ent.mem m hu fun h a => by
    obtain ⟨v, hv⟩ := chainR_get (hA h a).2 k hlt
    exact cellsAt_pre (m := [v]) hv
  have hel : (ch.map ptrOf)[k * 1]? = some (ptrOf ch[k]) := by simp [hlt]
  generalize ch[k] = x at *
  repeat (first | refine GD ?_ | refine NW fun _ => ?_)
  refine WL.step rfl (OP.load1 (v := .pointer (some ⟨x.1, 0, none⟩)) rfl rfl rfl rfl (Ent.elem (i := k * 1) (Ent.own (T := 63) MM) rfl hel) rfl rfl ?_)
  repeat (first | refine GD ?_ | refine NW fun _ => ?_)
  refine WL.step rfl (OP.load1 (v := .string x.2.1) rfl rfl rfl rfl (Ent.one (i := 0) (hg MM) rfl) rfl rfl ?_)
  by_cases ho : x.2.1 = op
  · rw [hf, firstC, if_pos ho]
    repeat (first | refine GD ?_ | refine NW fun _ => ?_)
    refine WL.step rfl (OP.load1 (v := .int .i64 x.2.2) rfl rfl rfl rfl (Ent.one (i := 1) (hg MM) rfl) rfl rfl ?_)
    repeat (first | refine GD ?_ | refine NW fun _ => ?_)
    exact ret2 rfl rfl ⟨rfl, MM⟩
  · rw [firstC, if_neg ho] at hf
    repeat (first | refine GD ?_ | refine NW fun _ => ?_)
    exact ⟨k + 1, ⟨by omega, hf⟩, by omega, ⟨rfl, rfl, rfl, rfl, trivial⟩, Imp.refl _⟩
end Go.Proofs.YtacgheafbkfciaaDoor
/- Contracts of functions of the given program, and plain laws on what they compute: parts of the proofs of laws. -/

namespace Go.Proofs.YtacgheafbkfciaaDoor
open Go Go.GL

/-! a nil table -/
set_option maxRecDepth 10000 in
theorem tof_nil (v : Int) : RO G 19 [.pointer none, .int .i64 v] (fun _ => True) (.map none) := by
  refine RO.enter Tryd.func19 rfl (by decide) rfl Tryd.ntmps19 rfl (fun A hu hA => ?_) (fun _ _ _ h => h)
  repeat (first | refine GO ?_ | refine NW fun _ => ?_)
  exact ret1 rfl ⟨rfl, MM⟩
set_option maxRecDepth 10000 in
theorem mput_nil (v m : Int) : RT G 8 [.pointer none, .int .i64 v, .int .i64 m] (fun _ => True) (IsEr (some ([(marksT, v)], 5))) := by
  refine RT.enter Tryd.func8 rfl (by decide) rfl Tryd.ntmps8 rfl (fun A hu hA => ?_)
  repeat (first | refine GD ?_ | refine NW fun _ => ?_)
  refine WL.step rfl (OP.call (pre := []) rfl rfl (wrap_ok marksT v 5 (by decide)) PS rfl rfl ?_)
  intro x M hF
  obtain ⟨M', h1, h2⟩ := hF.isEr
  repeat (first | refine GD ?_ | refine NW fun _ => ?_)
  exact ret1 rfl ⟨M', h1, Imp.app h2 _⟩
set_option maxRecDepth 10000 in
theorem mforget_nil (v u : Int) : RO G 6 [.pointer none, .int .i64 v, .int .i64 u] (fun _ => True) (.tuple #[]) := by
  refine RO.enter Tryd.func6 rfl (by decide) rfl Tryd.ntmps6 rfl (fun A hu hA => ?_) (fun _ _ _ h => h)
  repeat (first | refine GD ?_ | refine NW fun _ => ?_)
  refine WL.step rfl (OP.callRO rfl rfl (tof_nil v) (fun _ _ => trivial) rfl rfl ?_)
  refine WL.step rfl (OP.rangeNil rfl rfl rfl rfl rfl rfl (fun it => ?_))
  repeat (first | refine GD ?_ | refine NW fun _ => ?_)
  refine WC.loop (σ := Unit) (fun _ => True)
    (fun _ => [(10, .val (.pointer (some ⟨it, 0, none⟩)))])
    (fun _ => [objA it (.mapIter none 0 #[] 0), A]) (fun _ => 0) () trivial ⟨rfl, trivial⟩ II ?_
  rintro ⟨⟩ _
  repeat (first | refine GD ?_ | refine NW fun _ => ?_)
  refine WL.step rfl (OP.nextNil rfl rfl (Ent.mem (A := objA it (.mapIter none 0 #[] 0)) MM (up_objA _ _) (fun _ a => a)) rfl rfl ?_)
  repeat (first | refine GD ?_ | refine NW fun _ => ?_)
  exact blockK.hit rfl (ret0n ⟨rfl, MM⟩)
set_option maxRecDepth 10000 in
theorem mof_nil (v : Int) : RT G 9 [.pointer none, .int .i64 v] (fun _ => True) (fun x E => ∃ a cap, x = .slice a 0 cap ∧ E = [ownS a 0 cap 3 1 []]) := by
  refine RT.enter Tryd.func9 rfl (by decide) rfl Tryd.ntmps9 rfl (fun A hu hA => ?_)
  repeat (first | refine GD ?_ | refine NW fun _ => ?_)
  refine WL.step rfl (OP.callRO rfl rfl (tof_nil v) (fun _ _ => trivial) rfl rfl ?_)
  refine WL.step rfl (OP.callRT rfl rfl (keys_rt _) (fun _ _ => trivial) rfl rfl ?_)
  rintro _ _ ⟨b, rfl, rfl⟩
  refine WL.step rfl (OP.callRT rfl rfl (sortedK_rt b none (fun _ => false) (fun k h => nomatch h) (fun es clock hm => Nat.le_trans (MapEs.few (l := []) hm (fun k h => nomatch h)) (Nat.zero_le _))) (Ent.and (Ent.whole (T := 52) MM) (fun _ _ _ => rfl)) rfl rfl ?_)
  rintro _ _ ⟨a, cap, l, hl, rfl, rfl⟩
  obtain rfl : l = [] := List.eq_nil_iff_forall_not_mem.2 fun x hx => nomatch (hl.2 x).1 hx
  repeat (first | refine GD ?_ | refine NW fun _ => ?_)
  exact ret1 rfl ⟨_, ⟨a, cap, rfl, rfl⟩, II⟩
set_option maxHeartbeats 1000000 in
set_option maxRecDepth 10000 in
theorem mlacks_nil (mark : Int) (a : Option Addr) (n c : Nat) (vols : List Int) (hn : n = vols.length) (hs : n < 100000) :
    RT G 12 [.pointer none, .int .i64 mark, .slice a n c] (readI a n vols) (IntsPost vols) := by
  refine RT.enter Tryd.func12 rfl (by decide) rfl Tryd.ntmps12 rfl (fun A hu hA => ?_)
  have hV : ∀ {L}, A ∈ L → Ent L (readS a n 1 (vols.map iV)) := fun m => Ent.mem m hu hA
  repeat (first | refine GD ?_ | refine NW fun _ => ?_)
  refine WC.imp (Imp.nilS 3 1) ?_
  refine WC.loop (σ := Nat × Option Addr × Nat) (fun s => s.1 ≤ n)
    (fun s => [(0, .val (.pointer none)), (1, .val (.int .i64 mark)), (7, .val (.slice s.2.1 s.1 s.2.2)), (10, .val (.slice a n c)), (11, .val (.int .i64 n)), (12, .val (.int .i64 s.1))])
    (fun s => [ownS s.2.1 s.1 s.2.2 3 1 ((vols.take s.1).map iV), A]) (fun s => n - s.1) (0, none, 0) (Nat.zero_le _) ⟨rfl, rfl, rfl, rfl, rfl, rfl, trivial⟩ (Imp.refl _) ?_
  rintro ⟨k, a7, cap⟩ hk
  dsimp only at hk ⊢
  by_cases hlt : k < n
  rotate_left
  · have he : k = vols.length := by omega
    subst he
    rw [List.take_length]
    repeat (first | refine GD ?_ | refine NW fun _ => ?_)
    exact ret1 rfl ⟨_, ⟨a7, cap, rfl, rfl⟩, Imp.refl _⟩
  have hlk : k < vols.length := by omega
  have hsn : vols.take (k + 1) = vols.take k ++ [vols[k]] := (List.take_append_getElem hlk).symm
  refine WC.fact (Ent.some (hV MM) (by omega)) ?_
  rintro ⟨b, off, rfl⟩
  have hel : ∀ {L}, A ∈ L → Ent L (cellAt b (off + k * 1) (iV vols[k])) := fun m => Ent.elem (hV m) rfl (int_get hlk)
  generalize vols[k] = v at *
  repeat (first | refine GD ?_ | refine NW fun _ => ?_)
  refine WL.step rfl (OP.load1 (v := .int .i64 v) rfl rfl rfl rfl (hel MM) rfl rfl ?_)
  repeat (first | refine GD ?_ | refine NW fun _ => ?_)
  refine WL.step rfl (OP.callRO rfl rfl (tof_nil v) (fun _ _ => trivial) rfl rfl ?_)
  repeat (first | refine GD ?_ | refine NW fun _ => ?_)
  refine WL.step rfl (OP.lookupNil (z := .bool false) rfl rfl rfl rfl rfl rfl rfl rfl rfl rfl rfl ?_)
  repeat (first | refine GD ?_ | refine NW fun _ => ?_)
  refine WL.step rfl (OP.append (ds := [iV v]) rfl rfl rfl rfl rfl rfl rfl rfl rfl P1 (Ent.own MM) rfl (by omega) (by omega) rfl rfl (fun a' cap' => ?_))
  repeat (first | refine GD ?_ | refine NW fun _ => ?_)
  exact ⟨(k + 1, a', cap'), by dsimp only; omega, by dsimp only; omega, ⟨rfl, rfl, rfl, rfl, rfl, rfl, trivial⟩, by dsimp only; rw [hsn, List.map_append]; exact II⟩
set_option maxHeartbeats 1000000 in
set_option maxRecDepth 10000 in
theorem mnewest_nil (a : Option Addr) (n c : Nat) (vols : List Int) (hn : n = vols.length) (hs : n < 100000) :
    RO G 10 [.pointer none, .slice a n c] (readI a n vols) (.int .i64 0) := by
  refine RO.enter Tryd.func10 rfl (by decide) rfl Tryd.ntmps10 rfl (fun A hu hA => ?_) (up_readS _ _ _ _)
  have hV : ∀ {L}, A ∈ L → Ent L (readS a n 1 (vols.map iV)) := fun m => Ent.mem m hu hA
  repeat (first | refine GD ?_ | refine NW fun _ => ?_)
  refine WC.loop (σ := Nat) (fun i => i ≤ n ∧ i ≤ 1)
    (fun i => [(0, .val (.pointer none)), (1, .val (.slice a n c)), (5, .val (.int .i64 0)), (9, .val (.slice a n c)), (10, .val (.int .i64 n)), (11, .val (.int .i64 i))])
    (fun _ => [A]) (fun i => 1 - i) 0 ⟨Nat.zero_le _, Nat.zero_le _⟩ ⟨rfl, rfl, rfl, rfl, rfl, rfl, trivial⟩ (Imp.refl _) ?_
  rintro i ⟨hi1, hi2⟩
  by_cases hlt : i < n
  rotate_left
  · repeat (first | refine GD ?_ | refine NW fun _ => ?_)
    exact ret1 rfl ⟨rfl, MM⟩
  have hlk : i < vols.length := by omega
  refine WC.fact (Ent.some (hV MM) (by omega)) ?_
  rintro ⟨b, off, rfl⟩
  have hel : ∀ {L}, A ∈ L → Ent L (cellAt b (off + i * 1) (iV vols[i])) := fun m => Ent.elem (hV m) rfl (int_get hlk)
  generalize vols[i] = v at *
  by_cases h1 : i = 1
  · subst h1
    repeat (first | refine GD ?_ | refine NW fun _ => ?_)
    refine WL.step rfl (OP.load1 (v := .int .i64 v) rfl rfl rfl rfl (hel MM) rfl rfl ?_)
    repeat (first | refine GD ?_ | refine NW fun _ => ?_)
    exact ret1 rfl ⟨rfl, MM⟩
  obtain rfl : i = 0 := by omega
  repeat (first | refine GD ?_ | refine NW fun _ => ?_)
  refine WL.step rfl (OP.load1 (v := .int .i64 v) rfl rfl rfl rfl (hel MM) rfl rfl ?_)
  repeat (first | refine GD ?_ | refine NW fun _ => ?_)
  refine WL.step rfl (OP.callRO rfl rfl (tof_nil v) (fun _ _ => trivial) rfl rfl ?_)
  refine WL.step rfl (OP.rangeNil rfl rfl rfl rfl rfl rfl (fun it => ?_))
  repeat (first | refine GD ?_ | refine NW fun _ => ?_)
  refine WC.loop (σ := Unit) (fun _ => True)
    (fun _ => [(0, .val (.pointer none)), (1, .val (.slice (some ⟨b, off, none⟩) n c)), (5, .val (.int .i64 0)), (9, .val (.slice (some ⟨b, off, none⟩) n c)), (10, .val (.int .i64 n)), (11, .val (.int .i64 0)), (21, .val (.pointer (some ⟨it, 0, none⟩)))])
    (fun _ => [objA it (.mapIter none 0 #[] 0), A]) (fun _ => 0) () trivial ⟨rfl, rfl, rfl, rfl, rfl, rfl, rfl, trivial⟩ II ?_
  rintro ⟨⟩ _
  repeat (first | refine GD ?_ | refine NW fun _ => ?_)
  refine WL.step rfl (OP.nextNil rfl rfl (Ent.mem (A := objA it (.mapIter none 0 #[] 0)) MM (up_objA _ _) (fun _ a => a)) rfl rfl ?_)
  repeat (first | refine GD ?_ | refine NW fun _ => ?_)
  exact ⟨1, ⟨by omega, Nat.le_refl _⟩, Nat.lt_succ_self 0, ⟨rfl, rfl, rfl, rfl, rfl, rfl, trivial⟩, II⟩
theorem one_len {ch : Chain} {x : ByteArray × Int} (h : ch.map Prod.snd = [x]) : ch.length < 1000 := by
  have := congrArg List.length h
  rw [List.length_map] at this
  rw [this]
  exact Nat.lt_of_sub_eq_succ rfl
set_option maxHeartbeats 4000000 in
set_option maxRecDepth 10000 in
theorem mnil_ro (v m : Int) (a : Option Addr) (n c : Nat) (vols : List Int) (hn : n = vols.length) : RO G 3 [.int .i64 v, .int .i64 m, .slice a n c] (fun h => ErrT h ∧ readI a n vols h) (.bool true) := by
  refine RO.enter Tryd.func3 rfl (by decide) rfl Tryd.ntmps3 rfl (fun A hu hA => ?_) (up_and up_ErrT (up_readS _ _ _ _))
  have hT : ∀ {L}, A ∈ L → Ent L ErrT := fun m => Ent.mem m hu fun k x => (hA k x).1
  have hV : ∀ {L}, A ∈ L → Ent L (readI a n vols) := fun m => Ent.mem m hu fun k x => (hA k x).2
  have hce : ∀ {L} {ch : Chain}, chainR ch 5 ∈ L → A ∈ L → Ent L (chainE ch 5) := fun m1 m2 => Ent.and (hT m2) (Ent.mem m1 (up_chainR _ _) (fun _ x => x))
  repeat (first | refine GD ?_ | refine NW fun _ => ?_)
  refine WL.step rfl (OP.callRO rfl rfl mawake_ro (fun _ _ => trivial) rfl rfl ?_)
  by_cases h20 : 20 < n
  · repeat (first | refine GD ?_ | refine NW fun _ => ?_)
    refine WL.step rfl (OP.callRO rfl rfl mawake_ro (fun _ _ => trivial) rfl rfl ?_)
    repeat (first | refine GD ?_ | refine NW fun _ => ?_)
    exact ret1 rfl ⟨rfl, MM⟩
  repeat (first | refine GD ?_ | refine NW fun _ => ?_)
  refine WL.step rfl (OP.callRO rfl rfl (mforget_nil v m) (fun _ _ => trivial) rfl rfl ?_)
  repeat (first | refine GD ?_ | refine NW fun _ => ?_)
  refine WL.step rfl (OP.callRT rfl rfl (mput_nil v m) (fun _ _ => trivial) rfl rfl ?_)
  rintro _ _ ⟨ch, hch, rfl, rfl⟩
  refine WL.step rfl (OP.callRO rfl rfl (codeC ch 5) (hce MM MM) rfl rfl ?_)
  repeat (first | refine GD ?_ | refine NW fun _ => ?_)
  refine WL.guardT rfl rfl rfl rfl (OP.callRT rfl rfl (mof_nil v) (fun _ _ => trivial) rfl rfl ?_)
  rintro _ _ ⟨aO, cO, rfl, rfl⟩
  repeat (first | refine GD ?_ | refine NW fun _ => ?_)
  refine WL.guardT rfl rfl rfl rfl (OP.callRO rfl rfl (mnewest_nil a n c vols hn (by omega)) (hV MM) rfl rfl ?_)
  repeat (first | refine GD ?_ | refine NW fun _ => ?_)
  refine WL.guardT rfl rfl rfl rfl (OP.callRT rfl rfl (mlacks_nil m a n c vols hn (by omega)) (hV MM) rfl rfl ?_)
  rintro _ _ ⟨aL, cL, rfl, rfl⟩
  repeat (first | refine GD ?_ | refine NW fun _ => ?_)
  refine WL.guardT rfl rfl rfl rfl (OP.callRO rfl rfl (msame_ro aL a vols.length cL n c vols vols rfl hn (by omega)) (Ent.and (Ent.own (T := 3) (cap := cL) MM) (hV MM)) rfl rfl ?_)
  rw [decide_eq_true (rfl : vols = vols)]
  repeat (first | refine GD ?_ | refine NW fun _ => ?_)
  exact ret1 rfl ⟨rfl, MM⟩
end Go.Proofs.YtacgheafbkfciaaDoor
namespace Go.Proofs.YtacgheafbkfciaaDoor
open Go Go.GL Go.ChangeShapes Go.WideShapes Go.ChangeAt Go.RowKit
open Go.ChangeMaps (open_string shut_string)
set_option linter.unusedVariables false

theorem ownMarksNil : ownKnob Tryd.prog.godebug = none := by kernel_rfl
theorem laidOutMarksNil : laidOutB Tryd.prog = true := by kernel_rfl
theorem etMarksNil : Tryd.prog.globalNamed "errors.errorType" = some 0 := by kernel_rfl
theorem rtMarksNil : (Tryd.prog.cutTypes.find? (·.1 == "internal/reflectlite.rtype")).map (·.2) = some 84 := by kernel_rfl
theorem oneRowMarksNil : ((List.range 150).filter fun t => Tryd.prog.rowNamed t [101, 114, 114, 111, 114]) = [29] := by kernel_rfl
theorem sizeMarksNil : Tryd.prog.types.size = 150 := by kernel_rfl
theorem handleMarksNil {W : World} (h : laidMetH Tryd.prog [("errors.errorType", Rows.laid_errors_errorType)] W) : W.cell? ⟨0, 0, none⟩ = some errT := by
  have h' : laidMet Tryd.prog [] W ∧ handlesMet Tryd.prog [("errors.errorType", Rows.laid_errors_errorType)] W := h
  obtain ⟨name, u, ty, e1, e2, e3, e4, e5⟩ := h'.2 _ (List.mem_singleton.2 rfl)
  have en : name = [101, 114, 114, 111, 114] := (Option.some.inj e1).symm
  subst en
  obtain rfl := Option.some.inj (rtMarksNil.symm.trans e2)
  have hm : ty ∈ (List.range 150).filter fun t => Tryd.prog.rowNamed t [101, 114, 114, 111, 114] := List.mem_filter.2 ⟨List.mem_range.2 (by rw [← sizeMarksNil]; exact e3), e4⟩
  rw [oneRowMarksNil] at hm
  obtain rfl := List.mem_singleton.1 hm
  have hh : typeHandle Tryd.prog 29 = .pointer (some ⟨1, 29, none⟩) := by kernel_rfl
  rw [hh] at e5
  have := World.var?_cell etMarksNil e5 0
  simpa [errT, rt, hd] using this
theorem cellAt_of {w : World} {b off : Nat} {v : Value} (h : w.cell? ⟨b, off, none⟩ = some v) : cellAt b off v (hpOf w) := by
  unfold World.cell? at h
  split at h
  · rename_i c T fr hb
    exact ⟨c, T, fr, hpOf_obj.2 hb, by simpa using h⟩
  · cases h
noncomputable def laidWorld (os : Os) : World :=
  let w0 := World.holding Tryd.prog os ⟨#[], #[], []⟩
  { w0 with heap := w0.heap.modify 0 fun
      | .cells _ t frozen => .cells #[.iface 84 (.agg #[.pointer (some ⟨1, 29, none⟩)])] t frozen
      | o => o }
theorem laidWorld_met (os : Os) (args : Array Value) : laidMetH Tryd.prog [("errors.errorType", Rows.laid_errors_errorType)] ((laidWorld os).forCall (fun _ _ => 0) ⟨#[], args, []⟩).memory :=
  laidMetH_of_parts (laidMet_nil _ _) (by kernel_rfl)
set_option maxRecDepth 100000 in
theorem liftedMarksNil (os : Os) (started : os.Started) (H : Type) (enc : TypeId × Value → H) :
    ReturnsInHanded {} Tryd.checked os 3 .any (fun w args => (Rows.marksNilSpec.pre enc Tryd.prog Tryd.f3 [] false w args ∧ laidMetH Tryd.prog [("errors.errorType", Rows.laid_errors_errorType)] w) ∧ sizedMet enc Tryd.prog Tryd.f3 (OpenSpec.ofChange Rows.marksNilSpec) false w args)
      (Rows.marksNilSpec.post enc Tryd.prog Tryd.f3 false true false false) := by
  refine returnsInHanded_of_change_and (C := Tryd.checked) (X := fun w _ => laidMetH Tryd.prog [("errors.errorType", Rows.laid_errors_errorType)] w) (fun _ _ _ hh h => h.of_heap hh) ownMarksNil started (by kernel_rfl) Tryd.func3
    (ChangeSpec.witness_at (enc := enc) (C := Tryd.checked) (os := os) (X := fun w _ => laidMetH Tryd.prog [("errors.errorType", Rows.laid_errors_errorType)] w) false (laidWorld os) #[.int .i64 0, .int .i64 0, .slice none 0 0] 8 rfl (by kernel_rfl) (by kernel_rfl) (by kernel_rfl) (by kernel_rfl) (by kernel_rfl) (laidWorld_met os _)) ?_
  intro W base args ds gs before hval0 hW _ _ hL _
  have hval : ∀ (j : Nat) t v, Tryd.f3.params[j]? = some t → args[j]? = some v → Value.okWide Tryd.prog W .any base t v := hval0
  have hW' := hW
  obtain ⟨p, q, hA0, hV0, rfl, hfz, hnd⟩ := hW
  have hV : DataW.TrodVars enc Tryd.prog W (fun _ => true) [] gs q := hV0
  have hE := cellAt_of (handleMarksNil hL)
  have hA : DataW.TrodAll enc Tryd.prog W 0 (fun _ => true) true Tryd.f3.params.toList args.toList ds p := hA0
  rw [Tryd.params3] at hA hval
  obtain ⟨v0, vs0, d0, ds0, p0, q0, hargs, rfl, rfl, h0, r0⟩ := trodAll_cons hA
  obtain ⟨v1, vs1, d1, ds1, p1, q1, rfl, rfl, rfl, h1, r1⟩ := trodAll_cons r0
  obtain ⟨v2, vs2, d2, ds2, p2, q2, rfl, rfl, rfl, h2, r2⟩ := trodAll_cons r1
  obtain ⟨rfl, rfl, rfl⟩ := trodAll_nil r2
  obtain rfl : args = #[v0, v1, v2] := by cases args; simp_all
  obtain ⟨rfl, rfl⟩ : gs = [] ∧ q = [] := by
    cases gs with
    | nil => exact ⟨rfl, hV⟩
    | cons g r => exact absurd hV (by intro h; cases h)
  have k0 := h0
  obtain ⟨a0, rfl, _, _, w0⟩ := open_int Tryd.underlying3 (hval 0 3 v0 rfl rfl) h0
  have k1 := h1
  obtain ⟨a1, rfl, _, _, w1⟩ := open_int Tryd.underlying3 (hval 1 3 v1 rfl rfl) h1
  have k2 := h2
  obtain ⟨a2, len2, cap2, rw2, rfl, hr2, hc2, hm2, ho2, R2⟩ := open_row (n := 4) (l := [.int .i64]) Tryd.underlying22 (by kernel_rfl) (by kernel_rfl) (hval 2 22 v2 rfl rfl) h2
  obtain ⟨l2, hl2, hn2, w2⟩ := rows_ints ho2
  rw [hl2] at R2
  rw [hr2] at hn2
  clear hA0 hval0
  refine ((mnil_ro a0 a1 a2 len2 cap2 l2 hn2.symm).calls W ⟨hE, R2⟩).mono fun e W' ⟨he, ext⟩ => ?_
  subst he
  exact ⟨_, rfl, _, _, _, [], _, [], hW', trodAll_mk1 (shut_bool Tryd.underlying4 _), (trodAll_cons_mk (GL.Ext.trod laidOutMarksNil (by kernel_rfl) (of_decide_eq_true (by kernel_rfl)) k0 ext) (trodAll_cons_mk (GL.Ext.trod laidOutMarksNil (by kernel_rfl) (of_decide_eq_true (by kernel_rfl)) k1 ext) (trodAll_cons_mk (GL.Ext.trod laidOutMarksNil (by kernel_rfl) (of_decide_eq_true (by kernel_rfl)) k2 ext) trodAll_mk0))), rfl, ext.keptBut _, fun h => by cases h⟩
theorem overMarksNil : Rows.marksNilRow.holds Tryd.pinned (OpenSpec.ofChange Rows.marksNilSpec) :=
  OpenClaim.holds_of_wide 3 Tryd.f3 rfl rfl rfl rfl rfl rfl rfl ⟨rfl, rfl, rfl, rfl, rfl⟩ rfl rfl rfl rfl rfl (by kernel_rfl) Tryd.func3 (by kernel_rfl)
    (of_decide_eq_true (by kernel_rfl)) (by unfold Func.isWrapper; first | (rw [if_pos (by decide +kernel)]; kernel_rfl) | (rw [if_neg (by decide +kernel)]; exact ⟨rfl, rfl⟩))
    (fun os started H enc _ => liftedMarksNil os started H enc)
theorem marksNil_holds : Rows.MarksNilCardSaid :=
  Claim7.holds_tied_plain_at .later [] [.handle] true (true, "6fd25310d68fa193b5ee8893b308a6e06c171d0ad4f276e93bec45c6687ffdac") true
    overMarksNil (fun _ h => by cases h) (by kernel_rfl) (fun _ h => by cases h) marksNil_row_tie rfl ⟨rfl, rfl⟩ (by kernel_rfl) rfl
    (fun f fn hf hfn => by
      obtain rfl : f = 3 := Option.some.inj ((show Tryd.prog.funcNamed Rows.marksNilRow.func = some 3 by kernel_rfl).symm.trans hf) |>.symm
      obtain rfl : fn = Tryd.f3 := (Option.some.inj (Tryd.func3.symm.trans hfn)).symm
      exact ⟨by kernel_rfl, fun j t ht => by
        rw [Tryd.params3] at ht
        match j, ht with
        | 0, ht => obtain rfl : 3 = t := by simpa using ht
                   exact (show Tryd.prog.wantsStandIn 3 = false by kernel_rfl)
        | 1, ht => obtain rfl : 3 = t := by simpa using ht
                   exact (show Tryd.prog.wantsStandIn 3 = false by kernel_rfl)
        | 2, ht => obtain rfl : 22 = t := by simpa using ht
                   exact (show Tryd.prog.wantsStandIn 22 = false by kernel_rfl)
        | (k + 3), ht => simp at ht⟩)
    (by kernel_rfl)
end Go.Proofs.YtacgheafbkfciaaDoor
