/- Contracts of functions of the given program, and plain laws: parts of the proofs of laws. -/
import Derived.Test.YtleajkobmhhacaaGreatDoorZCQ4
import Derived.Test.YtleajkobmhhacaaGreatDoorZCQ7
import Derived.Test.YtleajkobmhhacaaGreatDoorZCQ11
import Derived.Test.YtleajkobmhhacaaGreatDoorZCQ9
import Derived.Test.YtleajkobmhhacaaGreatDoorZCQ3
import Derived.Test.YtleajkobmhhacaaGreatDoorZCQ5
import Derived.Test.YtleajkobmhhacaaGreatDoorZCQ15
import Derived.Test.YtleajkobmhhacaaGreatDoorZCQ13
/- Contracts of functions of the given program, and plain laws on what they compute: parts of the proofs of laws. -/

namespace Go.Proofs.YtleajkobmhhacaaGreatDoor
open Go Go.GL Go.Extern

/-- a type's handle -/
def hd (t : Nat) : Value := .pointer (some ⟨1, t, none⟩)
def rt (t : Nat) : Value := .iface 329 (.agg #[hd t])
def errT : Value := rt 31
theorem xValueOf : IsExt Tryz.prog 175 (fun args => ReflectliteValue.unpack (args.getD 0 (.tuple #[]))) := fun args w => run_callFunc_extern (e := (fun args => ReflectliteValue.unpack (args.getD 0 (.tuple #[])))) Tryz.func175 (by kernel_rfl) (by kernel_rfl) (by kernel_rfl) (by kernel_rfl) args w
theorem xType : IsExt Tryz.prog 176 (ReflectliteValue.methodAny (ReflectliteValue.valueError "reflectlite.Value.Type" 0) (fun t _ _ _ => ReflectliteType.toType t)) := fun args w => run_callFunc_extern (e := (ReflectliteValue.methodAny (ReflectliteValue.valueError "reflectlite.Value.Type" 0) (fun t _ _ _ => ReflectliteType.toType t))) Tryz.func176 (by kernel_rfl) (by kernel_rfl) (by kernel_rfl) (by kernel_rfl) args w
theorem xIsNil : IsExt Tryz.prog 177 (ReflectliteValue.method (ReflectliteValue.valueError "reflectlite.Value.IsNil" 0) ReflectliteValue.isNil) := fun args w => run_callFunc_extern (e := (ReflectliteValue.method (ReflectliteValue.valueError "reflectlite.Value.IsNil" 0) ReflectliteValue.isNil)) Tryz.func177 (by kernel_rfl) (by kernel_rfl) (by kernel_rfl) (by kernel_rfl) args w
theorem xKind : IsExt Tryz.prog 262 (ReflectliteType.abiMethod fun t => do pure (.int .u8 (← Rtype.kind t))) := fun args w => run_callFunc_extern (e := (ReflectliteType.abiMethod fun t => do pure (.int .u8 (← Rtype.kind t)))) Tryz.func262 (by kernel_rfl) (by kernel_rfl) (by kernel_rfl) (by kernel_rfl) args w
theorem xElem : IsExt Tryz.prog 277 (ReflectliteType.method ReflectliteType.elem) := fun args w => run_callFunc_extern (e := (ReflectliteType.method ReflectliteType.elem)) Tryz.func277 (by kernel_rfl) (by kernel_rfl) (by kernel_rfl) (by kernel_rfl) args w
theorem xImplements : IsExt Tryz.prog 278 (ReflectliteType.relation "Implements" ReflectliteType.implements_) := fun args w => run_callFunc_extern (e := (ReflectliteType.relation "Implements" ReflectliteType.implements_)) Tryz.func278 (by kernel_rfl) (by kernel_rfl) (by kernel_rfl) (by kernel_rfl) args w
theorem xTypeOf : IsExt Tryz.prog 220 ReflectliteType.typeOf := fun args w => run_callFunc_extern (e := ReflectliteType.typeOf) Tryz.func220 (by kernel_rfl) (by kernel_rfl) (by kernel_rfl) (by kernel_rfl) args w
theorem xAssignableTo : IsExt Tryz.prog 275 (ReflectliteType.relation "AssignableTo" ReflectliteType.assignableTo) := fun args w => run_callFunc_extern (e := (ReflectliteType.relation "AssignableTo" ReflectliteType.assignableTo)) Tryz.func275 (by kernel_rfl) (by kernel_rfl) (by kernel_rfl) (by kernel_rfl) args w
theorem xElemV : IsExt Tryz.prog 221 (ReflectliteValue.method (ReflectliteValue.valueError "reflectlite.Value.Elem" 0) ReflectliteValue.elem) := fun args w => run_callFunc_extern (e := (ReflectliteValue.method (ReflectliteValue.valueError "reflectlite.Value.Elem" 0) ReflectliteValue.elem)) Tryz.func221 (by kernel_rfl) (by kernel_rfl) (by kernel_rfl) (by kernel_rfl) args w
theorem xSet : IsExt Tryz.prog 222 ReflectliteValue.set := fun args w => run_callFunc_extern (e := ReflectliteValue.set) Tryz.func222 (by kernel_rfl) (by kernel_rfl) (by kernel_rfl) (by kernel_rfl) args w
theorem mKind (h : Value) (w : World) : (Go.method (Tryz.prog.types.size + Made.depth) 329 (.agg #[h]) "Kind").run Tryz.prog w = .ok (262, h) w := by kernel_rfl
theorem mElem (h : Value) (w : World) : (Go.method (Tryz.prog.types.size + Made.depth) 329 (.agg #[h]) "Elem").run Tryz.prog w = .ok (277, .agg #[h]) w := by kernel_rfl
theorem mImplements (h : Value) (w : World) : (Go.method (Tryz.prog.types.size + Made.depth) 329 (.agg #[h]) "Implements").run Tryz.prog w = .ok (278, .agg #[h]) w := by kernel_rfl
theorem mAssignableTo (h : Value) (w : World) : (Go.method (Tryz.prog.types.size + Made.depth) 329 (.agg #[h]) "AssignableTo").run Tryz.prog w = .ok (275, .agg #[h]) w := by kernel_rfl
theorem mUnwrap (v : Value) (w : World) : (Go.method (Tryz.prog.types.size + Made.depth) 248 v "Unwrap").run Tryz.prog w = .ok (268, v) w := by kernel_rfl
theorem valueOfNP (t : Addr) (w : World) : (ReflectliteValue.unpack (.iface 213 (.pointer (some t)))).run Tryz.prog w = .ok (.agg #[hd 213, .pointer (some ⟨w.heap.size, 0, none⟩), .int .u64 150]) (w.alloc (.cells #[.pointer (some t)] 213)) := by kernel_rfl
theorem typeNP (a : Addr) (w : World) : ((ReflectliteValue.methodAny (ReflectliteValue.valueError "reflectlite.Value.Type" 0) (fun t _ _ _ => ReflectliteType.toType t)) #[.agg #[hd 213, .pointer (some a), .int .u64 150]]).run Tryz.prog w = .ok (rt 213) w := by kernel_rfl
theorem partsNP (a : Addr) (w : World) : (ReflectliteValue.parts (.agg #[hd 213, .pointer (some a), .int .u64 150])).run Tryz.prog w = .ok (some (213, a, 150)) w := by kernel_rfl
theorem valueOfFF (t : Addr) (w : World) : (ReflectliteValue.unpack (.iface 315 (.pointer (some t)))).run Tryz.prog w = .ok (.agg #[hd 315, .pointer (some ⟨w.heap.size, 0, none⟩), .int .u64 150]) (w.alloc (.cells #[.pointer (some t)] 315)) := by kernel_rfl
theorem typeFF (a : Addr) (w : World) : ((ReflectliteValue.methodAny (ReflectliteValue.valueError "reflectlite.Value.Type" 0) (fun t _ _ _ => ReflectliteType.toType t)) #[.agg #[hd 315, .pointer (some a), .int .u64 150]]).run Tryz.prog w = .ok (rt 315) w := by kernel_rfl
theorem partsFF (a : Addr) (w : World) : (ReflectliteValue.parts (.agg #[hd 315, .pointer (some a), .int .u64 150])).run Tryz.prog w = .ok (some (315, a, 150)) w := by kernel_rfl
theorem rlm (z : Sem Value) (f : TypeId → Addr → Nat → Nat → Sem Value) (v : Value) : ReflectliteValue.method z f #[v] = (do match ← ReflectliteValue.parts v with | none => z | some (t, a, fl) => f t a fl (fl % 32)) := rfl
theorem isNilNP (a p : Addr) (W : World) (ha : W.cell? a = some (.pointer (some p))) : ((ReflectliteValue.method (ReflectliteValue.valueError "reflectlite.Value.IsNil" 0) ReflectliteValue.isNil) #[.agg #[hd 213, .pointer (some a), .int .u64 150]]).run Tryz.prog W = .ok (.bool false) W := by
  rw [rlm]
  simp only [Sem.run_bind, partsNP, Result.andThen]
  simp [ReflectliteValue.isNil, loadVar, isAgg, underlying, Tryz.underlying213, ha, Result.andThen]
theorem isNilFF (a p : Addr) (W : World) (ha : W.cell? a = some (.pointer (some p))) : ((ReflectliteValue.method (ReflectliteValue.valueError "reflectlite.Value.IsNil" 0) ReflectliteValue.isNil) #[.agg #[hd 315, .pointer (some a), .int .u64 150]]).run Tryz.prog W = .ok (.bool false) W := by
  rw [rlm]
  simp only [Sem.run_bind, partsFF, Result.andThen]
  simp [ReflectliteValue.isNil, loadVar, isAgg, underlying, Tryz.underlying315, ha, Result.andThen]
theorem kindNP (w : World) : ((ReflectliteType.abiMethod fun t => do pure (.int .u8 (← Rtype.kind t))) #[hd 213]).run Tryz.prog w = .ok (.int .u8 22) w := by kernel_rfl
theorem kindFF (w : World) : ((ReflectliteType.abiMethod fun t => do pure (.int .u8 (← Rtype.kind t))) #[hd 315]).run Tryz.prog w = .ok (.int .u8 22) w := by kernel_rfl
theorem kindN (w : World) : ((ReflectliteType.abiMethod fun t => do pure (.int .u8 (← Rtype.kind t))) #[hd 91]).run Tryz.prog w = .ok (.int .u8 2) w := by kernel_rfl
theorem kindF (w : World) : ((ReflectliteType.abiMethod fun t => do pure (.int .u8 (← Rtype.kind t))) #[hd 248]).run Tryz.prog w = .ok (.int .u8 22) w := by kernel_rfl
theorem elemNP (w : World) : ((ReflectliteType.method ReflectliteType.elem) #[.agg #[hd 213]]).run Tryz.prog w = .ok (rt 91) w := by kernel_rfl
theorem elemOfNP (w : World) : (Rtype.elem? 213).run Tryz.prog w = .ok (some 91) w := by kernel_rfl
theorem elemFF (w : World) : ((ReflectliteType.method ReflectliteType.elem) #[.agg #[hd 315]]).run Tryz.prog w = .ok (rt 248) w := by kernel_rfl
theorem elemOfFF (w : World) : (Rtype.elem? 315).run Tryz.prog w = .ok (some 248) w := by kernel_rfl
theorem implementsN (w : World) : ((ReflectliteType.relation "Implements" ReflectliteType.implements_) #[.agg #[hd 91], errT]).run Tryz.prog w = .ok (.bool true) w := by kernel_rfl
theorem typeOfN (v : Value) (w : World) : (ReflectliteType.typeOf #[.iface 91 v]).run Tryz.prog w = .ok (rt 91) w := by kernel_rfl
theorem mkN (p : Addr) (w : World) : (ReflectliteValue.mk 91 p ReflectliteValue.flagAddr).run Tryz.prog w = .ok (.agg #[hd 91, .pointer (some p), .int .u64 386]) w := by kernel_rfl
theorem partsAN (a : Addr) (w : World) : (ReflectliteValue.parts (.agg #[hd 91, .pointer (some a), .int .u64 386])).run Tryz.prog w = .ok (some (91, a, 386)) w := by kernel_rfl
theorem partsBN (a : Addr) (w : World) : (ReflectliteValue.parts (.agg #[hd 91, .pointer (some a), .int .u64 130])).run Tryz.prog w = .ok (some (91, a, 130)) w := by kernel_rfl
theorem directN (w : World) : (Rtype.directlyAssignable 91 91).run Tryz.prog w = .ok true w := by kernel_rfl
theorem implementsF (w : World) : ((ReflectliteType.relation "Implements" ReflectliteType.implements_) #[.agg #[hd 248], errT]).run Tryz.prog w = .ok (.bool true) w := by kernel_rfl
theorem typeOfF (v : Value) (w : World) : (ReflectliteType.typeOf #[.iface 248 v]).run Tryz.prog w = .ok (rt 248) w := by kernel_rfl
theorem mkF (p : Addr) (w : World) : (ReflectliteValue.mk 248 p ReflectliteValue.flagAddr).run Tryz.prog w = .ok (.agg #[hd 248, .pointer (some p), .int .u64 406]) w := by kernel_rfl
theorem partsAF (a : Addr) (w : World) : (ReflectliteValue.parts (.agg #[hd 248, .pointer (some a), .int .u64 406])).run Tryz.prog w = .ok (some (248, a, 406)) w := by kernel_rfl
theorem partsBF (a : Addr) (w : World) : (ReflectliteValue.parts (.agg #[hd 248, .pointer (some a), .int .u64 150])).run Tryz.prog w = .ok (some (248, a, 150)) w := by kernel_rfl
theorem directF (w : World) : (Rtype.directlyAssignable 248 248).run Tryz.prog w = .ok true w := by kernel_rfl
theorem assignFN (w : World) : ((ReflectliteType.relation "AssignableTo" ReflectliteType.assignableTo) #[.agg #[hd 248], rt 91]).run Tryz.prog w = .ok (.bool false) w := by kernel_rfl
theorem assignNN (w : World) : ((ReflectliteType.relation "AssignableTo" ReflectliteType.assignableTo) #[.agg #[hd 91], rt 91]).run Tryz.prog w = .ok (.bool true) w := by kernel_rfl
theorem assignFF (w : World) : ((ReflectliteType.relation "AssignableTo" ReflectliteType.assignableTo) #[.agg #[hd 248], rt 248]).run Tryz.prog w = .ok (.bool true) w := by kernel_rfl
theorem assignNF (w : World) : ((ReflectliteType.relation "AssignableTo" ReflectliteType.assignableTo) #[.agg #[hd 91], rt 248]).run Tryz.prog w = .ok (.bool false) w := by kernel_rfl
theorem valueOfF (e : Addr) (w : World) : (ReflectliteValue.unpack (.iface 248 (.pointer (some e)))).run Tryz.prog w = .ok (.agg #[hd 248, .pointer (some ⟨w.heap.size, 0, none⟩), .int .u64 150]) (w.alloc (.cells #[.pointer (some e)] 248)) := by kernel_rfl
theorem valueOfN (c : Int) (w : World) : (ReflectliteValue.unpack (.iface 91 (.int .i64 c))).run Tryz.prog w = .ok (.agg #[hd 91, .pointer (some ⟨w.heap.size, 0, none⟩), .int .u64 130]) (w.alloc (.cells #[.int .i64 c] 91)) := by kernel_rfl
theorem elemVNP (a p : Addr) (W : World) (ha : W.cell? a = some (.pointer (some p))) : ((ReflectliteValue.method (ReflectliteValue.valueError "reflectlite.Value.Elem" 0) ReflectliteValue.elem) #[.agg #[hd 213, .pointer (some a), .int .u64 150]]).run Tryz.prog W = .ok (.agg #[hd 91, .pointer (some p), .int .u64 386]) W := by
  rw [rlm]
  simp only [Sem.run_bind, partsNP, Result.andThen]
  simp [ReflectliteValue.elem, loadVar, isAgg, underlying, Tryz.underlying213, ha, Result.andThen, elemOfNP, mkN]
theorem elemVFF (a p : Addr) (W : World) (ha : W.cell? a = some (.pointer (some p))) : ((ReflectliteValue.method (ReflectliteValue.valueError "reflectlite.Value.Elem" 0) ReflectliteValue.elem) #[.agg #[hd 315, .pointer (some a), .int .u64 150]]).run Tryz.prog W = .ok (.agg #[hd 248, .pointer (some p), .int .u64 406]) W := by
  rw [rlm]
  simp only [Sem.run_bind, partsFF, Result.andThen]
  simp [ReflectliteValue.elem, loadVar, isAgg, underlying, Tryz.underlying315, ha, Result.andThen, elemOfFF, mkF]
theorem rls (v x : Value) : ReflectliteValue.set #[v, x] = (do
    let (some (dst, a, fl), some (src, b, _)) := (← ReflectliteValue.parts v, ← ReflectliteValue.parts x)
      | unsupported (.noEntry "extern/(internal/reflectlite.Value).Set.zeroValue")
    if fl / ReflectliteValue.flagAddr % 2 == 0 then unsupported (.noEntry "extern/(internal/reflectlite.Value).Set.unaddressable")
    let val ← loadVar src b
    if ← Rtype.directlyAssignable dst src then storeVar dst a val
    else if ← Rtype.implements dst src then
      if (← Rtype.kind src) == 20 then
        match val with
        | .nilIface => unsupported (.noEntry "extern/reflectlite: a nil value of one interface type handed on as a value of another")
        | _ => storeVar dst a val
      else storeVar dst a (.iface src val)
    else panicString ("reflectlite.Set: value of type " ++ (← Rtype.spelt src) ++ " is not assignable to type " ++ (← Rtype.spelt dst))
    pure (.tuple #[])) := rfl
theorem sizeN (w : World) : (sizeOf 91).run Tryz.prog w = .ok 1 w := by kernel_rfl
theorem setN (ta b : Addr) (c : Int) (old : Value) (W : World) (hb : W.cell? b = some (.int .i64 c)) (ht : W.cell? ta = some old) (hf : W.frozen? ta = false) :
    (ReflectliteValue.set #[.agg #[hd 91, .pointer (some ta), .int .u64 386], .agg #[hd 91, .pointer (some b), .int .u64 130]]).run Tryz.prog W = .ok (.tuple #[]) (W.setCell ta (.int .i64 c)) := by
  rw [rls]
  simp only [Sem.run_bind, partsAN, partsBN, Result.andThen]
  simp [ReflectliteValue.flagAddr, loadVar, isAgg, underlying, Tryz.underlying91, hb, Result.andThen, directN, storeVar, Value.cells, storeCells, Addr.add]
  rw [run_store Tryz.prog W ta _ _ (by rfl)]
  simp [ht, hf]
theorem sizeF (w : World) : (sizeOf 248).run Tryz.prog w = .ok 1 w := by kernel_rfl
theorem setF (ta b : Addr) (c : Option Addr) (old : Value) (W : World) (hb : W.cell? b = some (.pointer c)) (ht : W.cell? ta = some old) (hf : W.frozen? ta = false) :
    (ReflectliteValue.set #[.agg #[hd 248, .pointer (some ta), .int .u64 406], .agg #[hd 248, .pointer (some b), .int .u64 150]]).run Tryz.prog W = .ok (.tuple #[]) (W.setCell ta (.pointer c)) := by
  rw [rls]
  simp only [Sem.run_bind, partsAF, partsBF, Result.andThen]
  simp [ReflectliteValue.flagAddr, loadVar, isAgg, underlying, Tryz.underlying248, hb, Result.andThen, directF, storeVar, Value.cells, storeCells, Addr.add]
  rw [run_store Tryz.prog W ta _ _ (by rfl)]
  simp [ht, hf]
theorem assertFIA (v : Value) (w : World) : (Instr.typeAssert (.iface 248 v) 31 334 true).run Tryz.prog w = .ok (.tuple #[.nilIface, .bool false]) w := run_typeAssert_lacksB Tryz.underlying334 (by kernel_rfl) (by kernel_rfl) v 31 w
theorem assertFIU (v : Value) (w : World) : (Instr.typeAssert (.iface 248 v) 31 337 true).run Tryz.prog w = .ok (.tuple #[.iface 248 v, .bool true]) w := run_typeAssert_hasB Tryz.underlying337 (by kernel_rfl) v 31 w
theorem assertNIA (v : Value) (w : World) : (Instr.typeAssert (.iface 91 v) 31 334 true).run Tryz.prog w = .ok (.tuple #[.nilIface, .bool false]) w := run_typeAssert_lacksB Tryz.underlying334 (by kernel_rfl) (by kernel_rfl) v 31 w
theorem assertNIU (v : Value) (w : World) : (Instr.typeAssert (.iface 91 v) 31 337 true).run Tryz.prog w = .ok (.tuple #[.nilIface, .bool false]) w := run_typeAssert_lacksB Tryz.underlying337 (by kernel_rfl) (by kernel_rfl) v 31 w
theorem assertNIL (v : Value) (w : World) : (Instr.typeAssert (.iface 91 v) 31 338 true).run Tryz.prog w = .ok (.tuple #[.nilIface, .bool false]) w := run_typeAssert_lacksB Tryz.underlying338 (by kernel_rfl) (by kernel_rfl) v 31 w
end Go.Proofs.YtleajkobmhhacaaGreatDoor
/- Contracts of functions of the given program, and plain laws on what they compute: parts of the proofs of laws. -/

namespace Go.Proofs.YtleajkobmhhacaaGreatDoor
open Go Go.GL Go.Extern

/-- the cells of a fault -/
def faultCells (op : ByteArray) (at_ c : Int) : List Value := [.string op, .int .i64 at_, .iface 91 (.int .i64 c)]
/-- the type of errors lies where errors.As looks for it -/
def ErrT : Assn := cellAt 0 0 errT
theorem up_ErrT : Up ErrT := up_cellAt _ _ _
theorem cell_of_blk0 {L : List Assn} {w : World} {b : Nat} {c : List Value} {T : TypeId} {v : Value} (s : Sat L w) (m : blk b c T ∈ L) (h : c[0]? = some v) : w.cell? ⟨b, 0, none⟩ = some v :=
  cell_of_cellAt ((Ent.blk m h) _ s)
theorem cell_of_cells0 {L : List Assn} {w : World} {b off i : Nat} {l : List Value} {v : Value} (s : Sat L w) (m : Ent L (cellsAt b off l)) (h : l[i]? = some v) : w.cell? ⟨b, off + i, none⟩ = some v :=
  cell_of_cellAt (cellsAt_one (m _ s) h)
set_option maxRecDepth 10000 in
theorem as_nil (v : Value) : RO G 112 [.nilIface, v] (fun _ => True) (.bool false) := by
  refine RO.enter Tryz.func112 rfl (by decide) rfl Tryz.ntmps112 rfl (fun A _ hA => ?_) (fun _ _ _ h => h)
  repeat (first | refine GO ?_ | refine NW fun _ => ?_)
  exact ret1 rfl ⟨rfl, MM⟩
set_option maxRecDepth 10000 in
theorem unwrap_ro (b : Nat) (op : ByteArray) (at_ c : Int) : RO G 268 [.pointer (some ⟨b, 0, none⟩)] (cellsAt b 0 (faultCells op at_ c)) (.iface 91 (.int .i64 c)) := by
  refine RO.enter Tryz.func268 rfl (by decide) rfl Tryz.ntmps268 rfl (fun A hu hA => ?_) (up_cellsAt _ _ _)
  repeat (first | refine GO ?_ | refine NW fun _ => ?_)
  refine WL.step rfl (OP.load1 (v := .iface 91 (.int .i64 c)) rfl rfl rfl rfl (Ent.mem (A := A) MM hu (fun h x => cellsAt_one (i := 2) (hA h x) rfl)) rfl rfl ?_)
  repeat (first | refine GO ?_ | refine NW fun _ => ?_)
  exact ret1 rfl ⟨rfl, MM⟩
set_option maxHeartbeats 4000000 in
set_option maxRecDepth 10000 in
theorem asF_hit (b p q : Nat) (old : Value) :
    Triple G 178 [.iface 248 (.pointer (some ⟨b, 0, none⟩)), .iface 315 (.pointer (some ⟨p, 0, none⟩)), .agg #[hd 315, .pointer (some ⟨q, 0, none⟩), .int .u64 150], rt 248] [blk p [old] 248, blk q [.pointer (some ⟨p, 0, none⟩)] 315] (fun v M => v = .bool true ∧ M = [blk p [.pointer (some ⟨b, 0, none⟩)] 248]) := by
  refine Triple.enter Tryz.func178 rfl (by decide) rfl Tryz.ntmps178 rfl (fun X => ?_)
  repeat (first | refine GO ?_ | refine NW fun _ => ?_)
  rename_i bx
  refine WC.loop (σ := Unit) (fun _ => True) (fun _ => [(0, .val (.iface 248 (.pointer (some ⟨b, 0, none⟩)))), (1, .val (.iface 315 (.pointer (some ⟨p, 0, none⟩)))), (3, .val (rt 248)), (6, .val (.pointer (some ⟨bx, 0, none⟩))), (8, .val (.bool false))])
    (fun _ => [blk bx [hd 315, .pointer (some ⟨q, 0, none⟩), .int .u64 150] 281, blk p [old] 248, blk q [.pointer (some ⟨p, 0, none⟩)] 315, X]) (fun _ => 0) () trivial ⟨rfl, rfl, rfl, rfl, rfl, trivial⟩ II ?_
  rintro _ _
  repeat (first | refine GD ?_ | refine NW fun _ => ?_)
  refine WL.step rfl (OP.extP (.call xTypeOf rfl rfl) (fun w _ => typeOfF _ w) rfl rfl ?_)
  repeat (first | refine GD ?_ | refine NW fun _ => ?_)
  refine WL.step rfl (OP.extP (.inv xAssignableTo rfl rfl rfl (fun w => mAssignableTo _ w)) (fun w _ => assignFF w) rfl rfl ?_)
  repeat (first | refine GD ?_ | refine NW fun _ => ?_)
  refine WL.step rfl (OP.extP (.call xElemV rfl rfl) (fun w s => elemVFF _ ⟨p, 0, none⟩ w (cell_of_blk0 (b := q) s MM rfl)) rfl rfl ?_)
  repeat (first | refine GD ?_ | refine NW fun _ => ?_)
  refine WL.step rfl (OP.extNew (mk := (fun n => .agg #[hd 248, .pointer (some ⟨n, 0, none⟩), .int .u64 150])) (.call xValueOf rfl rfl) (fun w _ => valueOfF _ w) rfl rfl (fun q2 => ?_))
  repeat (first | refine GD ?_ | refine NW fun _ => ?_)
  refine WL.step rfl (OP.extSet (.call xSet rfl rfl) (fun w s => setF ⟨p, 0, none⟩ ⟨q2, 0, none⟩ (some ⟨b, 0, none⟩) old w (cell_of_blk0 (b := q2) s MM rfl) (cell_of_blk0 (b := p) s MM rfl) (Sat.notFrozen (b := p) (c := [old]) (T := 248) s MM (Nat.zero_lt_succ _))) (by repeat (first | exact Upd.here _ _ _ _ _ | apply Upd.there)) rfl rfl ?_)
  repeat (first | refine GD ?_ | refine NW fun _ => ?_)
  exact ret1 rfl ⟨_, ⟨rfl, rfl⟩, II⟩
set_option maxHeartbeats 4000000 in
set_option maxRecDepth 10000 in
theorem asF_miss (p q : Nat) (c : Int) :
    Triple G 178 [.iface 91 (.int .i64 c), .iface 315 (.pointer (some ⟨p, 0, none⟩)), .agg #[hd 315, .pointer (some ⟨q, 0, none⟩), .int .u64 150], rt 248] [] (fun v M => v = .bool false ∧ M = []) := by
  refine Triple.enter Tryz.func178 rfl (by decide) rfl Tryz.ntmps178 rfl (fun X => ?_)
  repeat (first | refine GO ?_ | refine NW fun _ => ?_)
  rename_i bx
  refine WC.loop (σ := Unit) (fun _ => True) (fun _ => [(0, .val (.iface 91 (.int .i64 c))), (1, .val (.iface 315 (.pointer (some ⟨p, 0, none⟩)))), (3, .val (rt 248)), (6, .val (.pointer (some ⟨bx, 0, none⟩))), (8, .val (.bool false))])
    (fun _ => [X]) (fun _ => 0) () trivial ⟨rfl, rfl, rfl, rfl, rfl, trivial⟩ II ?_
  rintro _ _
  repeat (first | refine GD ?_ | refine NW fun _ => ?_)
  refine WL.step rfl (OP.extP (.call xTypeOf rfl rfl) (fun w _ => typeOfN _ w) rfl rfl ?_)
  repeat (first | refine GD ?_ | refine NW fun _ => ?_)
  refine WL.step rfl (OP.extP (.inv xAssignableTo rfl rfl rfl (fun w => mAssignableTo _ w)) (fun w _ => assignNF w) rfl rfl ?_)
  repeat (first | refine GD ?_ | refine NW fun _ => ?_)
  refine WL.step rfl (OP.assert rfl rfl (fun w => assertNIA _ w) rfl rfl ?_)
  repeat (first | refine GD ?_ | refine NW fun _ => ?_)
  refine WL.step rfl (OP.assert rfl rfl (fun w => assertNIU _ w) rfl rfl ?_)
  repeat (first | refine GD ?_ | refine NW fun _ => ?_)
  refine WL.step rfl (OP.assert rfl rfl (fun w => assertNIL _ w) rfl rfl ?_)
  repeat (first | refine GD ?_ | refine NW fun _ => ?_)
  exact ret1 rfl ⟨_, ⟨rfl, rfl⟩, II⟩
set_option maxHeartbeats 4000000 in
set_option maxRecDepth 10000 in
theorem asN_fault (b p q : Nat) (op : ByteArray) (at_ c : Int) (old : Value) (A : Assn) (hu : Up A) (hA : ∀ h, A h → cellsAt b 0 (faultCells op at_ c) h) :
    Triple G 178 [.iface 248 (.pointer (some ⟨b, 0, none⟩)), .iface 213 (.pointer (some ⟨p, 0, none⟩)), .agg #[hd 213, .pointer (some ⟨q, 0, none⟩), .int .u64 150], rt 91] [blk p [old] 91, blk q [.pointer (some ⟨p, 0, none⟩)] 213, A] (fun v M => v = .bool true ∧ M = [blk p [.int .i64 c] 91, A]) := by
  refine Triple.enter Tryz.func178 rfl (by decide) rfl Tryz.ntmps178 rfl (fun X => ?_)
  repeat (first | refine GO ?_ | refine NW fun _ => ?_)
  rename_i bx
  refine WC.loop (σ := Bool) (fun _ => True) (fun s => match s with | true => [(0, .val (.iface 248 (.pointer (some ⟨b, 0, none⟩)))), (1, .val (.iface 213 (.pointer (some ⟨p, 0, none⟩)))), (3, .val (rt 91)), (6, .val (.pointer (some ⟨bx, 0, none⟩))), (8, .val (.bool false))] | false => [(0, .val (.iface 91 (.int .i64 c))), (1, .val (.iface 213 (.pointer (some ⟨p, 0, none⟩)))), (3, .val (rt 91)), (6, .val (.pointer (some ⟨bx, 0, none⟩))), (8, .val (.bool false))])
    (fun _ => [blk bx [hd 213, .pointer (some ⟨q, 0, none⟩), .int .u64 150] 281, blk p [old] 91, blk q [.pointer (some ⟨p, 0, none⟩)] 213, A, X]) (fun s => match s with | true => 1 | false => 0) true trivial ⟨rfl, rfl, rfl, rfl, rfl, trivial⟩ II ?_
  rintro s _
  cases s
  · repeat (first | refine GD ?_ | refine NW fun _ => ?_)
    refine WL.step rfl (OP.extP (.call xTypeOf rfl rfl) (fun w _ => typeOfN _ w) rfl rfl ?_)
    repeat (first | refine GD ?_ | refine NW fun _ => ?_)
    refine WL.step rfl (OP.extP (.inv xAssignableTo rfl rfl rfl (fun w => mAssignableTo _ w)) (fun w _ => assignNN w) rfl rfl ?_)
    repeat (first | refine GD ?_ | refine NW fun _ => ?_)
    refine WL.step rfl (OP.extP (.call xElemV rfl rfl) (fun w s => elemVNP _ ⟨p, 0, none⟩ w (cell_of_blk0 (b := q) s MM rfl)) rfl rfl ?_)
    repeat (first | refine GD ?_ | refine NW fun _ => ?_)
    refine WL.step rfl (OP.extNew (mk := (fun n => .agg #[hd 91, .pointer (some ⟨n, 0, none⟩), .int .u64 130])) (.call xValueOf rfl rfl) (fun w _ => valueOfN _ w) rfl rfl (fun q2 => ?_))
    repeat (first | refine GD ?_ | refine NW fun _ => ?_)
    refine WL.step rfl (OP.extSet (.call xSet rfl rfl) (fun w s => setN ⟨p, 0, none⟩ ⟨q2, 0, none⟩ c old w (cell_of_blk0 (b := q2) s MM rfl) (cell_of_blk0 (b := p) s MM rfl) (Sat.notFrozen (b := p) (c := [old]) (T := 91) s MM (Nat.zero_lt_succ _))) (by repeat (first | exact Upd.here _ _ _ _ _ | apply Upd.there)) rfl rfl ?_)
    repeat (first | refine GD ?_ | refine NW fun _ => ?_)
    exact ret1 rfl ⟨_, ⟨rfl, rfl⟩, II⟩
  · repeat (first | refine GD ?_ | refine NW fun _ => ?_)
    refine WL.step rfl (OP.extP (.call xTypeOf rfl rfl) (fun w _ => typeOfF _ w) rfl rfl ?_)
    repeat (first | refine GD ?_ | refine NW fun _ => ?_)
    refine WL.step rfl (OP.extP (.inv xAssignableTo rfl rfl rfl (fun w => mAssignableTo _ w)) (fun w _ => assignFN w) rfl rfl ?_)
    repeat (first | refine GD ?_ | refine NW fun _ => ?_)
    refine WL.step rfl (OP.assert rfl rfl (fun w => assertFIA _ w) rfl rfl ?_)
    repeat (first | refine GD ?_ | refine NW fun _ => ?_)
    refine WL.step rfl (OP.assert rfl rfl (fun w => assertFIU _ w) rfl rfl ?_)
    repeat (first | refine GD ?_ | refine NW fun _ => ?_)
    refine WL.step rfl (OP.invRO rfl rfl (fun w => mUnwrap _ w) (unwrap_ro b op at_ c) (Ent.mem (A := A) MM hu hA) rfl rfl ?_)
    repeat (first | refine GD ?_ | refine NW fun _ => ?_)
    exact ⟨false, trivial, by decide, ⟨rfl, rfl, rfl, rfl, rfl, trivial⟩, II⟩
set_option maxHeartbeats 4000000 in
set_option maxRecDepth 10000 in
theorem as_faults (b p : Nat) (old : Value) (A : Assn) (hu : Up A) (hA : ∀ h, A h → ErrT h) :
    Triple G 112 [.iface 248 (.pointer (some ⟨b, 0, none⟩)), .iface 315 (.pointer (some ⟨p, 0, none⟩))] ([blk p [old] 248, A]) (fun v M => v = .bool true ∧ M = [blk p [.pointer (some ⟨b, 0, none⟩)] 248, A]) := by
  refine Triple.enter Tryz.func112 rfl (by decide) rfl Tryz.ntmps112 rfl (fun F => ?_)
  repeat (first | refine GO ?_ | refine NW fun _ => ?_)
  refine WL.step rfl (OP.extNew (mk := fun n => .agg #[hd 315, .pointer (some ⟨n, 0, none⟩), .int .u64 150]) (.call xValueOf rfl rfl) (fun w _ => valueOfFF _ w) rfl rfl (fun q => ?_))
  repeat (first | refine GO ?_ | refine NW fun _ => ?_)
  refine WL.step rfl (OP.extP (.call xType rfl rfl) (fun w _ => typeFF _ w) rfl rfl ?_)
  repeat (first | refine GO ?_ | refine NW fun _ => ?_)
  refine WL.step rfl (OP.extP (.inv xKind rfl rfl rfl (fun w => mKind _ w)) (fun w _ => kindFF w) rfl rfl ?_)
  repeat (first | refine GO ?_ | refine NW fun _ => ?_)
  refine WL.guardT rfl rfl rfl rfl (OP.extP (.call xIsNil rfl rfl) (fun w s => isNilFF _ ⟨p, 0, none⟩ w (cell_of_blk0 (b := q) s MM rfl)) rfl rfl ?_)
  repeat (first | refine GO ?_ | refine NW fun _ => ?_)
  refine WL.step rfl (OP.extP (.inv xElem rfl rfl rfl (fun w => mElem _ w)) (fun w _ => elemFF w) rfl rfl ?_)
  repeat (first | refine GO ?_ | refine NW fun _ => ?_)
  refine WL.step rfl (OP.extP (.inv xKind rfl rfl rfl (fun w => mKind _ w)) (fun w _ => kindF w) rfl rfl ?_)
  repeat (first | refine GO ?_ | refine NW fun _ => ?_)
  refine WL.guardT rfl rfl rfl rfl (OP.load1 (v := errT) rfl rfl rfl rfl (Ent.mem (A := A) MM hu hA) rfl rfl ?_)
  repeat (first | refine GO ?_ | refine NW fun _ => ?_)
  refine WL.guardT rfl rfl rfl rfl (OP.extP (.inv xImplements rfl rfl rfl (fun w => mImplements _ w)) (fun w _ => implementsF w) rfl rfl ?_)
  repeat (first | refine GO ?_ | refine NW fun _ => ?_)
  refine WL.step rfl (OP.call (pre := [blk p [old] 248, blk q [.pointer (some ⟨p, 0, none⟩)] 315]) rfl rfl (asF_hit b p q old) PS rfl rfl ?_)
  rintro _ _ ⟨rfl, rfl⟩
  repeat (first | refine GO ?_ | refine NW fun _ => ?_)
  exact ret1 rfl ⟨_, ⟨rfl, rfl⟩, II⟩
set_option maxHeartbeats 4000000 in
set_option maxRecDepth 10000 in
theorem as_faultsN (p : Nat) (c : Int) (old : Value) (A : Assn) (hu : Up A) (hA : ∀ h, A h → ErrT h) :
    Triple G 112 [.iface 91 (.int .i64 c), .iface 315 (.pointer (some ⟨p, 0, none⟩))] ([blk p [old] 248, A]) (fun v M => v = .bool false ∧ M = [blk p [old] 248, A]) := by
  refine Triple.enter Tryz.func112 rfl (by decide) rfl Tryz.ntmps112 rfl (fun F => ?_)
  repeat (first | refine GO ?_ | refine NW fun _ => ?_)
  refine WL.step rfl (OP.extNew (mk := fun n => .agg #[hd 315, .pointer (some ⟨n, 0, none⟩), .int .u64 150]) (.call xValueOf rfl rfl) (fun w _ => valueOfFF _ w) rfl rfl (fun q => ?_))
  repeat (first | refine GO ?_ | refine NW fun _ => ?_)
  refine WL.step rfl (OP.extP (.call xType rfl rfl) (fun w _ => typeFF _ w) rfl rfl ?_)
  repeat (first | refine GO ?_ | refine NW fun _ => ?_)
  refine WL.step rfl (OP.extP (.inv xKind rfl rfl rfl (fun w => mKind _ w)) (fun w _ => kindFF w) rfl rfl ?_)
  repeat (first | refine GO ?_ | refine NW fun _ => ?_)
  refine WL.guardT rfl rfl rfl rfl (OP.extP (.call xIsNil rfl rfl) (fun w s => isNilFF _ ⟨p, 0, none⟩ w (cell_of_blk0 (b := q) s MM rfl)) rfl rfl ?_)
  repeat (first | refine GO ?_ | refine NW fun _ => ?_)
  refine WL.step rfl (OP.extP (.inv xElem rfl rfl rfl (fun w => mElem _ w)) (fun w _ => elemFF w) rfl rfl ?_)
  repeat (first | refine GO ?_ | refine NW fun _ => ?_)
  refine WL.step rfl (OP.extP (.inv xKind rfl rfl rfl (fun w => mKind _ w)) (fun w _ => kindF w) rfl rfl ?_)
  repeat (first | refine GO ?_ | refine NW fun _ => ?_)
  refine WL.guardT rfl rfl rfl rfl (OP.load1 (v := errT) rfl rfl rfl rfl (Ent.mem (A := A) MM hu hA) rfl rfl ?_)
  repeat (first | refine GO ?_ | refine NW fun _ => ?_)
  refine WL.guardT rfl rfl rfl rfl (OP.extP (.inv xImplements rfl rfl rfl (fun w => mImplements _ w)) (fun w _ => implementsF w) rfl rfl ?_)
  repeat (first | refine GO ?_ | refine NW fun _ => ?_)
  refine WL.step rfl (OP.call (pre := []) (F := _) rfl rfl (asF_miss p q c) (Imp.refl _) rfl rfl ?_)
  rintro _ _ ⟨rfl, rfl⟩
  repeat (first | refine GO ?_ | refine NW fun _ => ?_)
  exact ret1 rfl ⟨_, ⟨rfl, rfl⟩, II⟩
set_option maxHeartbeats 4000000 in
set_option maxRecDepth 10000 in
theorem as_code (b p : Nat) (op : ByteArray) (at_ c : Int) (old : Value) (A : Assn) (hu : Up A) (hA : ∀ h, A h → ErrT h) (hA2 : ∀ h, A h → cellsAt b 0 (faultCells op at_ c) h) :
    Triple G 112 [.iface 248 (.pointer (some ⟨b, 0, none⟩)), .iface 213 (.pointer (some ⟨p, 0, none⟩))] ([blk p [old] 91, A]) (fun v M => v = .bool true ∧ M = [blk p [.int .i64 c] 91, A]) := by
  refine Triple.enter Tryz.func112 rfl (by decide) rfl Tryz.ntmps112 rfl (fun F => ?_)
  repeat (first | refine GO ?_ | refine NW fun _ => ?_)
  refine WL.step rfl (OP.extNew (mk := fun n => .agg #[hd 213, .pointer (some ⟨n, 0, none⟩), .int .u64 150]) (.call xValueOf rfl rfl) (fun w _ => valueOfNP _ w) rfl rfl (fun q => ?_))
  repeat (first | refine GO ?_ | refine NW fun _ => ?_)
  refine WL.step rfl (OP.extP (.call xType rfl rfl) (fun w _ => typeNP _ w) rfl rfl ?_)
  repeat (first | refine GO ?_ | refine NW fun _ => ?_)
  refine WL.step rfl (OP.extP (.inv xKind rfl rfl rfl (fun w => mKind _ w)) (fun w _ => kindNP w) rfl rfl ?_)
  repeat (first | refine GO ?_ | refine NW fun _ => ?_)
  refine WL.guardT rfl rfl rfl rfl (OP.extP (.call xIsNil rfl rfl) (fun w s => isNilNP _ ⟨p, 0, none⟩ w (cell_of_blk0 (b := q) s MM rfl)) rfl rfl ?_)
  repeat (first | refine GO ?_ | refine NW fun _ => ?_)
  refine WL.step rfl (OP.extP (.inv xElem rfl rfl rfl (fun w => mElem _ w)) (fun w _ => elemNP w) rfl rfl ?_)
  repeat (first | refine GO ?_ | refine NW fun _ => ?_)
  refine WL.step rfl (OP.extP (.inv xKind rfl rfl rfl (fun w => mKind _ w)) (fun w _ => kindN w) rfl rfl ?_)
  repeat (first | refine GO ?_ | refine NW fun _ => ?_)
  refine WL.guardT rfl rfl rfl rfl (OP.load1 (v := errT) rfl rfl rfl rfl (Ent.mem (A := A) MM hu hA) rfl rfl ?_)
  repeat (first | refine GO ?_ | refine NW fun _ => ?_)
  refine WL.guardT rfl rfl rfl rfl (OP.extP (.inv xImplements rfl rfl rfl (fun w => mImplements _ w)) (fun w _ => implementsN w) rfl rfl ?_)
  repeat (first | refine GO ?_ | refine NW fun _ => ?_)
  refine WL.step rfl (OP.call (pre := [blk p [old] 91, blk q [.pointer (some ⟨p, 0, none⟩)] 213, A]) rfl rfl (asN_fault b p q op at_ c old A hu hA2) PS rfl rfl ?_)
  rintro _ _ ⟨rfl, rfl⟩
  repeat (first | refine GO ?_ | refine NW fun _ => ?_)
  exact ret1 rfl ⟨_, ⟨rfl, rfl⟩, II⟩
end Go.Proofs.YtleajkobmhhacaaGreatDoor
/- Contracts of functions of the given program, and plain laws on what they compute: parts of the proofs of laws. -/

namespace Go.Proofs.YtleajkobmhhacaaGreatDoor
open Go Go.GL

def FaultR (b : Nat) (op : ByteArray) (at_ c : Int) : Assn := fun h => ErrT h ∧ cellsAt b 0 (faultCells op at_ c) h
theorem up_FaultR (b : Nat) (op : ByteArray) (at_ c : Int) : Up (FaultR b op at_ c) := up_and up_ErrT (up_cellsAt _ _ _)
set_option maxRecDepth 10000 in
theorem code_nil : RO G 44 [.nilIface] (fun _ => True) (.int .i64 0) := by
  refine RO.enter Tryz.func44 rfl (by decide) rfl Tryz.ntmps44 rfl (fun A hu hA => ?_) (fun _ _ _ h => h)
  repeat (first | refine GO ?_ | refine NW fun _ => ?_)
  refine WL.step rfl (OP.callRO rfl rfl (as_nil _) (fun _ _ => trivial) rfl rfl ?_)
  repeat (first | refine GO ?_ | refine NW fun _ => ?_)
  exact ret1 rfl ⟨rfl, MM⟩
set_option maxRecDepth 10000 in
theorem code_fault (b : Nat) (op : ByteArray) (at_ c : Int) : RO G 44 [.iface 248 (.pointer (some ⟨b, 0, none⟩))] (FaultR b op at_ c) (.int .i64 c) := by
  refine RO.enter Tryz.func44 rfl (by decide) rfl Tryz.ntmps44 rfl (fun A hu hA => ?_) (up_FaultR _ _ _ _)
  repeat (first | refine GO ?_ | refine NW fun _ => ?_)
  rename_i p
  refine WL.step rfl (OP.call (pre := [blk p [.int .i64 0] 91, A]) rfl rfl (as_code b p op at_ c (.int .i64 0) A hu (fun h x => (hA h x).1) (fun h x => (hA h x).2)) PS rfl rfl ?_)
  rintro _ _ ⟨rfl, rfl⟩
  repeat (first | refine GO ?_ | refine NW fun _ => ?_)
  exact ret1 rfl ⟨rfl, MM⟩
def Ptrs (l : List Value) (v : Value) (E : List Assn) : Prop := ∃ a cap, v = .slice a l.length cap ∧ E = [ownS a l.length cap 248 1 l]
set_option maxRecDepth 10000 in
theorem faults_nil : RT G 151 [.nilIface] (fun _ => True) (fun v E => v = .slice none 0 0 ∧ E = []) := by
  refine RT.enter Tryz.func151 rfl (by decide) rfl Tryz.ntmps151 rfl (fun A hu hA => ?_)
  repeat (first | refine GO ?_ | refine NW fun _ => ?_)
  rename_i p
  refine WC.loop (σ := Unit) (fun _ => True) (fun _ => [(0, .val .nilIface), (3, .val (.slice none 0 0)), (4, .val (.pointer (some ⟨p, 0, none⟩)))]) (fun _ => [A]) (fun _ => 0) () trivial ⟨rfl, rfl, rfl, trivial⟩ II ?_
  rintro _ _
  repeat (first | refine GO ?_ | refine NW fun _ => ?_)
  refine WL.step rfl (OP.callRO rfl rfl (as_nil _) (fun _ _ => trivial) rfl rfl ?_)
  repeat (first | refine GO ?_ | refine NW fun _ => ?_)
  exact ret1 rfl ⟨[], ⟨rfl, rfl⟩, II⟩
set_option maxHeartbeats 1000000 in
set_option maxRecDepth 10000 in
theorem faults_one (b : Nat) (op : ByteArray) (at_ c : Int) : RT G 151 [.iface 248 (.pointer (some ⟨b, 0, none⟩))] (FaultR b op at_ c) (Ptrs [.pointer (some ⟨b, 0, none⟩)]) := by
  refine RT.enter Tryz.func151 rfl (by decide) rfl Tryz.ntmps151 rfl (fun A hu hA => ?_)
  repeat (first | refine GO ?_ | refine NW fun _ => ?_)
  rename_i p
  refine WC.imp (Imp.nilS 248 1) ?_
  refine WC.loop (σ := Bool × Option Addr × Nat) (fun s => s.1 = true → s.2.1 = none ∧ s.2.2 = 0) (fun s => match s.1 with
      | true => [(0, .val (.iface 248 (.pointer (some ⟨b, 0, none⟩)))), (3, .val (.slice none 0 0)), (4, .val (.pointer (some ⟨p, 0, none⟩)))]
      | false => [(0, .val (.iface 91 (.int .i64 c))), (3, .val (.slice s.2.1 1 s.2.2)), (4, .val (.pointer (some ⟨p, 0, none⟩)))])
    (fun s => match s.1 with
      | true => [blk p [.pointer none] 248, ownS none 0 0 248 1 [], A]
      | false => [blk p [.pointer (some ⟨b, 0, none⟩)] 248, ownS s.2.1 1 s.2.2 248 1 [.pointer (some ⟨b, 0, none⟩)], A])
    (fun s => match s.1 with | true => 1 | false => 0) (true, none, 0) (fun _ => ⟨rfl, rfl⟩) ⟨rfl, rfl, rfl, trivial⟩ II ?_
  rintro ⟨s, a, cap⟩ hs
  cases s
  · dsimp only at hs ⊢
    repeat (first | refine GO ?_ | refine NW fun _ => ?_)
    refine WL.step rfl (OP.call (pre := [blk p [.pointer (some ⟨b, 0, none⟩)] 248, A]) rfl rfl (as_faultsN p c _ A hu (fun h x => (hA h x).1)) PS rfl rfl ?_)
    rintro _ _ ⟨rfl, rfl⟩
    repeat (first | refine GO ?_ | refine NW fun _ => ?_)
    exact ret1 rfl ⟨[_], ⟨a, cap, rfl, rfl⟩, II⟩
  · dsimp only at hs ⊢
    repeat (first | refine GO ?_ | refine NW fun _ => ?_)
    refine WL.step rfl (OP.call (pre := [blk p [.pointer none] 248, A]) rfl rfl (as_faults b p _ A hu (fun h x => (hA h x).1)) PS rfl rfl ?_)
    rintro _ _ ⟨rfl, rfl⟩
    repeat (first | refine GO ?_ | refine NW fun _ => ?_)
    refine WL.step rfl (OP.append rfl rfl rfl rfl rfl rfl rfl rfl rfl P1 (Ent.own MM) rfl (by decide) (by decide) rfl rfl (fun a2 cap2 => ?_))
    repeat (first | refine GO ?_ | refine NW fun _ => ?_)
    refine WL.step rfl (OP.load1 (v := .iface 91 (.int .i64 c)) rfl rfl rfl rfl (Ent.mem (A := A) MM hu (fun h x => cellsAt_one (i := 2) (hA h x).2 rfl)) rfl rfl ?_)
    repeat (first | refine GO ?_ | refine NW fun _ => ?_)
    exact ⟨(false, a2, cap2), (fun h => nomatch h), Nat.zero_lt_one, ⟨rfl, rfl, rfl, trivial⟩, II⟩
set_option maxHeartbeats 1000000 in
set_option maxRecDepth 10000 in
theorem first_nil (op : ByteArray) : RO G 80 [.nilIface, .string op] (fun _ => True) (.tuple #[.int .i64 0, .bool false]) := by
  refine RO.enter Tryz.func80 rfl (by decide) rfl Tryz.ntmps80 rfl (fun A hu hA => ?_) (fun _ _ _ h => h)
  repeat (first | refine GO ?_ | refine NW fun _ => ?_)
  refine WL.step rfl (OP.callRT rfl rfl faults_nil (fun _ _ => trivial) rfl rfl ?_)
  rintro v E ⟨rfl, rfl⟩
  repeat (first | refine GO ?_ | refine NW fun _ => ?_)
  refine WC.loop (σ := Unit) (fun _ => True) (fun _ => [(10, .val (.int .i64 0)), (11, .val (.int .i64 0))]) (fun _ => [A]) (fun _ => 0) () trivial ⟨rfl, rfl, trivial⟩ II ?_
  rintro _ _
  repeat (first | refine GD ?_ | refine NW fun _ => ?_)
  exact ret2 rfl rfl ⟨rfl, MM⟩
set_option maxHeartbeats 1000000 in
set_option maxRecDepth 10000 in
theorem first_fault (b : Nat) (op op' : ByteArray) (at_ c : Int) : RO G 80 [.iface 248 (.pointer (some ⟨b, 0, none⟩)), .string op'] (FaultR b op at_ c) (if op = op' then .tuple #[.int .i64 at_, .bool true] else .tuple #[.int .i64 0, .bool false]) := by
  refine RO.enter Tryz.func80 rfl (by decide) rfl Tryz.ntmps80 rfl (fun A hu hA => ?_) (up_FaultR _ _ _ _)
  repeat (first | refine GO ?_ | refine NW fun _ => ?_)
  refine WL.step rfl (OP.callRT rfl rfl (faults_one b op at_ c) (Ent.mem MM hu hA) rfl rfl ?_)
  rintro v E ⟨a, cap, rfl, rfl⟩
  refine WL.fact (Ent.some (Ent.own (a := a) (n := 1) (cap := cap) (T := 248) (size := 1) (cs := [.pointer (some ⟨b, 0, none⟩)]) MM) (by decide)) ?_
  rintro ⟨b2, off2, rfl⟩
  repeat (first | refine GO ?_ | refine NW fun _ => ?_)
  refine WC.loop (σ := Nat) (fun k => k ≤ 1 ∧ (k = 1 → op ≠ op')) (fun k => [(1, .val (.string op')), (9, .val (.slice (some ⟨b2, off2, none⟩) 1 cap)), (10, .val (.int .i64 1)), (11, .val (.int .i64 k))]) (fun _ => [ownS (some ⟨b2, off2, none⟩) 1 cap 248 1 [.pointer (some ⟨b, 0, none⟩)], A]) (fun k => 1 - k) 0 ⟨by decide, (fun h => absurd h (by decide))⟩ ⟨rfl, rfl, rfl, rfl, trivial⟩ II ?_
  rintro k ⟨hk, hne⟩
  obtain rfl | rfl : k = 0 ∨ k = 1 := by omega
  · repeat (first | refine GD ?_ | refine NW fun _ => ?_)
    refine WL.step rfl (OP.load1 (v := .pointer (some ⟨b, 0, none⟩)) rfl rfl rfl rfl (Ent.elem (i := 0) (Ent.own (T := 248) MM) rfl rfl) rfl rfl ?_)
    repeat (first | refine GD ?_ | refine NW fun _ => ?_)
    refine WL.step rfl (OP.load1 (v := .string op) rfl rfl rfl rfl (Ent.mem (A := A) MM hu (fun h x => cellsAt_one (i := 0) (hA h x).2 rfl)) rfl rfl ?_)
    by_cases ho : op = op'
    · rw [if_pos ho]
      repeat (first | refine GD ?_ | refine NW fun _ => ?_)
      refine WL.step rfl (OP.load1 (v := .int .i64 at_) rfl rfl rfl rfl (Ent.mem (A := A) MM hu (fun h x => cellsAt_one (i := 1) (hA h x).2 rfl)) rfl rfl ?_)
      repeat (first | refine GD ?_ | refine NW fun _ => ?_)
      exact ret2 rfl rfl ⟨rfl, MM⟩
    · rw [if_neg ho]
      repeat (first | refine GD ?_ | refine NW fun _ => ?_)
      exact ⟨1, ⟨by decide, fun _ => ho⟩, by decide, ⟨rfl, rfl, rfl, rfl, trivial⟩, Imp.refl _⟩
  · rw [if_neg (hne rfl)]
    repeat (first | refine GD ?_ | refine NW fun _ => ?_)
    exact ret2 rfl rfl ⟨rfl, MM⟩
end Go.Proofs.YtleajkobmhhacaaGreatDoor
/- Contracts of functions of the given program, and plain laws on what they compute: parts of the proofs of laws. -/

namespace Go.Proofs.YtleajkobmhhacaaGreatDoor
open Go Go.GL

def chainE (ch : Chain) (c : Int) : Assn := fun h => ErrT h ∧ chainR ch c h
theorem up_chainE (ch : Chain) (c : Int) : Up (chainE ch c) := up_and up_ErrT (up_chainR ch c)
set_option maxRecDepth 10000 in
theorem unwrapC_ro (b : Nat) (op : ByteArray) (at_ : Int) (v : Value) : RO G 268 [.pointer (some ⟨b, 0, none⟩)] (cellsAt b 0 [.string op, .int .i64 at_, v]) v := by
  refine RO.enter Tryz.func268 rfl (by decide) rfl Tryz.ntmps268 rfl (fun A hu hA => ?_) (up_cellsAt _ _ _)
  repeat (first | refine GO ?_ | refine NW fun _ => ?_)
  refine WL.step rfl (OP.load1 (v := v) rfl rfl rfl rfl (Ent.mem (A := A) MM hu (fun h x => cellsAt_one (i := 2) (hA h x) rfl)) rfl rfl ?_)
  repeat (first | refine GO ?_ | refine NW fun _ => ?_)
  exact ret1 rfl ⟨rfl, MM⟩
set_option maxHeartbeats 4000000 in
set_option maxRecDepth 10000 in
theorem asN_chain (p q : Nat) (c : Int) (old : Value) (A : Assn) (hu : Up A) (ch : Chain) (hA : ∀ h, A h → chainR ch c h) :
    Triple G 178 [valOf ch c, .iface 213 (.pointer (some ⟨p, 0, none⟩)), .agg #[hd 213, .pointer (some ⟨q, 0, none⟩), .int .u64 150], rt 91] [blk p [old] 91, blk q [.pointer (some ⟨p, 0, none⟩)] 213, A] (fun v M => v = .bool true ∧ M = [blk p [.int .i64 c] 91, A]) := by
  refine Triple.enter Tryz.func178 rfl (by decide) rfl Tryz.ntmps178 rfl (fun X => ?_)
  repeat (first | refine GO ?_ | refine NW fun _ => ?_)
  rename_i bx
  refine WC.loop (σ := Chain) (fun s => ∀ h, A h → chainR s c h) (fun s => [(0, .val (valOf s c)), (1, .val (.iface 213 (.pointer (some ⟨p, 0, none⟩)))), (3, .val (rt 91)), (6, .val (.pointer (some ⟨bx, 0, none⟩))), (8, .val (.bool false))])
    (fun _ => [blk bx [hd 213, .pointer (some ⟨q, 0, none⟩), .int .u64 150] 281, blk p [old] 91, blk q [.pointer (some ⟨p, 0, none⟩)] 213, A, X]) (fun s => s.length) ch hA ⟨rfl, rfl, rfl, rfl, rfl, trivial⟩ II ?_
  rintro s hs
  cases s with
  | nil =>
    repeat (first | refine GD ?_ | refine NW fun _ => ?_)
    refine WL.step rfl (OP.extP (.call xTypeOf rfl rfl) (fun w _ => typeOfN _ w) rfl rfl ?_)
    repeat (first | refine GD ?_ | refine NW fun _ => ?_)
    refine WL.step rfl (OP.extP (.inv xAssignableTo rfl rfl rfl (fun w => mAssignableTo _ w)) (fun w _ => assignNN w) rfl rfl ?_)
    repeat (first | refine GD ?_ | refine NW fun _ => ?_)
    refine WL.step rfl (OP.extP (.call xElemV rfl rfl) (fun w s => elemVNP _ ⟨p, 0, none⟩ w (cell_of_blk0 (b := q) s MM rfl)) rfl rfl ?_)
    repeat (first | refine GD ?_ | refine NW fun _ => ?_)
    refine WL.step rfl (OP.extNew (mk := (fun n => .agg #[hd 91, .pointer (some ⟨n, 0, none⟩), .int .u64 130])) (.call xValueOf rfl rfl) (fun w _ => valueOfN _ w) rfl rfl (fun q2 => ?_))
    repeat (first | refine GD ?_ | refine NW fun _ => ?_)
    refine WL.step rfl (OP.extSet (.call xSet rfl rfl) (fun w s => setN ⟨p, 0, none⟩ ⟨q2, 0, none⟩ c old w (cell_of_blk0 (b := q2) s MM rfl) (cell_of_blk0 (b := p) s MM rfl) (Sat.notFrozen (b := p) (c := [old]) (T := 91) s MM (Nat.zero_lt_succ _))) (by repeat (first | exact Upd.here _ _ _ _ _ | apply Upd.there)) rfl rfl ?_)
    repeat (first | refine GD ?_ | refine NW fun _ => ?_)
    exact ret1 rfl ⟨_, ⟨rfl, rfl⟩, II⟩
  | cons x r =>
    repeat (first | refine GD ?_ | refine NW fun _ => ?_)
    refine WL.step rfl (OP.extP (.call xTypeOf rfl rfl) (fun w _ => typeOfF _ w) rfl rfl ?_)
    repeat (first | refine GD ?_ | refine NW fun _ => ?_)
    refine WL.step rfl (OP.extP (.inv xAssignableTo rfl rfl rfl (fun w => mAssignableTo _ w)) (fun w _ => assignFN w) rfl rfl ?_)
    repeat (first | refine GD ?_ | refine NW fun _ => ?_)
    refine WL.step rfl (OP.assert rfl rfl (fun w => assertFIA _ w) rfl rfl ?_)
    repeat (first | refine GD ?_ | refine NW fun _ => ?_)
    refine WL.step rfl (OP.assert rfl rfl (fun w => assertFIU _ w) rfl rfl ?_)
    repeat (first | refine GD ?_ | refine NW fun _ => ?_)
    refine WL.step rfl (OP.invRO rfl rfl (fun w => mUnwrap _ w) (unwrapC_ro x.1 x.2.1 x.2.2 (valOf r c)) (Ent.mem (A := A) MM hu (fun h a => (hs h a).1)) rfl rfl ?_)
    cases r with
    | nil =>
      repeat (first | refine GD ?_ | refine NW fun _ => ?_)
      exact ⟨[], (fun h a => (hs h a).2), by simp, ⟨rfl, rfl, rfl, rfl, rfl, trivial⟩, II⟩
    | cons y r =>
      repeat (first | refine GD ?_ | refine NW fun _ => ?_)
      exact ⟨y :: r, (fun h a => (hs h a).2), by simp, ⟨rfl, rfl, rfl, rfl, rfl, trivial⟩, II⟩
set_option maxHeartbeats 4000000 in
set_option maxRecDepth 10000 in
theorem as_codeC (p : Nat) (c : Int) (old : Value) (A : Assn) (hu : Up A) (ch : Chain) (hA : ∀ h, A h → chainE ch c h) :
    Triple G 112 [valOf ch c, .iface 213 (.pointer (some ⟨p, 0, none⟩))] ([blk p [old] 91, A]) (fun v M => v = .bool true ∧ M = [blk p [.int .i64 c] 91, A]) := by
  refine Triple.enter Tryz.func112 rfl (by decide) rfl Tryz.ntmps112 rfl (fun F => ?_)
  have hE : ∀ h, A h → ErrT h := fun h a => (hA h a).1
  have hN := fun p q old => asN_chain p q c old A hu ch (fun h a => (hA h a).2)
  cases ch with
  | nil =>
    repeat (first | refine GO ?_ | refine NW fun _ => ?_)
    refine WL.step rfl (OP.extNew (mk := fun n => .agg #[hd 213, .pointer (some ⟨n, 0, none⟩), .int .u64 150]) (.call xValueOf rfl rfl) (fun w _ => valueOfNP _ w) rfl rfl (fun q => ?_))
    repeat (first | refine GO ?_ | refine NW fun _ => ?_)
    refine WL.step rfl (OP.extP (.call xType rfl rfl) (fun w _ => typeNP _ w) rfl rfl ?_)
    repeat (first | refine GO ?_ | refine NW fun _ => ?_)
    refine WL.step rfl (OP.extP (.inv xKind rfl rfl rfl (fun w => mKind _ w)) (fun w _ => kindNP w) rfl rfl ?_)
    repeat (first | refine GO ?_ | refine NW fun _ => ?_)
    refine WL.guardT rfl rfl rfl rfl (OP.extP (.call xIsNil rfl rfl) (fun w s => isNilNP _ ⟨p, 0, none⟩ w (cell_of_blk0 (b := q) s MM rfl)) rfl rfl ?_)
    repeat (first | refine GO ?_ | refine NW fun _ => ?_)
    refine WL.step rfl (OP.extP (.inv xElem rfl rfl rfl (fun w => mElem _ w)) (fun w _ => elemNP w) rfl rfl ?_)
    repeat (first | refine GO ?_ | refine NW fun _ => ?_)
    refine WL.step rfl (OP.extP (.inv xKind rfl rfl rfl (fun w => mKind _ w)) (fun w _ => kindN w) rfl rfl ?_)
    repeat (first | refine GO ?_ | refine NW fun _ => ?_)
    refine WL.guardT rfl rfl rfl rfl (OP.load1 (v := errT) rfl rfl rfl rfl (Ent.mem (A := A) MM hu hE) rfl rfl ?_)
    repeat (first | refine GO ?_ | refine NW fun _ => ?_)
    refine WL.guardT rfl rfl rfl rfl (OP.extP (.inv xImplements rfl rfl rfl (fun w => mImplements _ w)) (fun w _ => implementsN w) rfl rfl ?_)
    repeat (first | refine GO ?_ | refine NW fun _ => ?_)
    refine WL.step rfl (OP.call (pre := [blk p [old] 91, blk q [.pointer (some ⟨p, 0, none⟩)] 213, A]) rfl rfl (hN p q old) PS rfl rfl ?_)
    rintro _ _ ⟨rfl, rfl⟩
    repeat (first | refine GO ?_ | refine NW fun _ => ?_)
    exact ret1 rfl ⟨_, ⟨rfl, rfl⟩, II⟩
  | cons x r =>
    repeat (first | refine GO ?_ | refine NW fun _ => ?_)
    refine WL.step rfl (OP.extNew (mk := fun n => .agg #[hd 213, .pointer (some ⟨n, 0, none⟩), .int .u64 150]) (.call xValueOf rfl rfl) (fun w _ => valueOfNP _ w) rfl rfl (fun q => ?_))
    repeat (first | refine GO ?_ | refine NW fun _ => ?_)
    refine WL.step rfl (OP.extP (.call xType rfl rfl) (fun w _ => typeNP _ w) rfl rfl ?_)
    repeat (first | refine GO ?_ | refine NW fun _ => ?_)
    refine WL.step rfl (OP.extP (.inv xKind rfl rfl rfl (fun w => mKind _ w)) (fun w _ => kindNP w) rfl rfl ?_)
    repeat (first | refine GO ?_ | refine NW fun _ => ?_)
    refine WL.guardT rfl rfl rfl rfl (OP.extP (.call xIsNil rfl rfl) (fun w s => isNilNP _ ⟨p, 0, none⟩ w (cell_of_blk0 (b := q) s MM rfl)) rfl rfl ?_)
    repeat (first | refine GO ?_ | refine NW fun _ => ?_)
    refine WL.step rfl (OP.extP (.inv xElem rfl rfl rfl (fun w => mElem _ w)) (fun w _ => elemNP w) rfl rfl ?_)
    repeat (first | refine GO ?_ | refine NW fun _ => ?_)
    refine WL.step rfl (OP.extP (.inv xKind rfl rfl rfl (fun w => mKind _ w)) (fun w _ => kindN w) rfl rfl ?_)
    repeat (first | refine GO ?_ | refine NW fun _ => ?_)
    refine WL.guardT rfl rfl rfl rfl (OP.load1 (v := errT) rfl rfl rfl rfl (Ent.mem (A := A) MM hu hE) rfl rfl ?_)
    repeat (first | refine GO ?_ | refine NW fun _ => ?_)
    refine WL.guardT rfl rfl rfl rfl (OP.extP (.inv xImplements rfl rfl rfl (fun w => mImplements _ w)) (fun w _ => implementsN w) rfl rfl ?_)
    repeat (first | refine GO ?_ | refine NW fun _ => ?_)
    refine WL.step rfl (OP.call (pre := [blk p [old] 91, blk q [.pointer (some ⟨p, 0, none⟩)] 213, A]) rfl rfl (hN p q old) PS rfl rfl ?_)
    rintro _ _ ⟨rfl, rfl⟩
    repeat (first | refine GO ?_ | refine NW fun _ => ?_)
    exact ret1 rfl ⟨_, ⟨rfl, rfl⟩, II⟩
set_option maxRecDepth 10000 in
theorem codeC (ch : Chain) (c : Int) : RO G 44 [valOf ch c] (chainE ch c) (.int .i64 c) := by
  refine RO.enter Tryz.func44 rfl (by decide) rfl Tryz.ntmps44 rfl (fun A hu hA => ?_) (up_chainE _ _)
  repeat (first | refine GO ?_ | refine NW fun _ => ?_)
  rename_i p
  refine WL.step rfl (OP.call (pre := [blk p [.int .i64 0] 91, A]) rfl rfl (as_codeC p c (.int .i64 0) A hu ch hA) PS rfl rfl ?_)
  rintro _ _ ⟨rfl, rfl⟩
  repeat (first | refine GO ?_ | refine NW fun _ => ?_)
  exact ret1 rfl ⟨rfl, MM⟩
def ptrOf (x : Nat × ByteArray × Int) : Value := .pointer (some ⟨x.1, 0, none⟩)
theorem asFN (p : Nat) (ch : Chain) (c : Int) (old : Value) (A : Assn) (hu : Up A) (hA : ∀ h, A h → ErrT h) :
    Triple G 112 [valOf ch c, .iface 315 (.pointer (some ⟨p, 0, none⟩))] ([blk p [old] 248, A]) (fun v M => match ch with
      | [] => v = .bool false ∧ M = [blk p [old] 248, A]
      | x :: _ => v = .bool true ∧ M = [blk p [ptrOf x] 248, A]) := by
  cases ch with
  | nil => exact as_faultsN p c old A hu hA
  | cons x r => exact as_faults x.1 p old A hu hA
set_option maxHeartbeats 1000000 in
set_option maxRecDepth 10000 in
theorem faultsC (ch : Chain) (c : Int) (hl : ch.length < 1000) : RT G 151 [valOf ch c] (chainE ch c) (Ptrs (ch.map ptrOf)) := by
  refine RT.enter Tryz.func151 rfl (by decide) rfl Tryz.ntmps151 rfl (fun A hu hA => ?_)
  repeat (first | refine GO ?_ | refine NW fun _ => ?_)
  rename_i p
  refine WC.imp (Imp.nilS 248 1) ?_
  refine WC.loop (σ := Chain × Chain × Value × Option Addr × Nat) (fun s => s.1 ++ s.2.1 = ch ∧ ∀ h, A h → chainR s.2.1 c h)
    (fun s => [(0, .val (valOf s.2.1 c)), (3, .val (.slice s.2.2.2.1 s.1.length s.2.2.2.2)), (4, .val (.pointer (some ⟨p, 0, none⟩)))])
    (fun s => [blk p [s.2.2.1] 248, ownS s.2.2.2.1 s.1.length s.2.2.2.2 248 1 (s.1.map ptrOf), A])
    (fun s => s.2.1.length) ([], ch, .pointer none, none, 0) ⟨rfl, fun h a => (hA h a).2⟩ ⟨rfl, rfl, rfl, trivial⟩ II ?_
  rintro ⟨d, r, old, a, cap⟩ ⟨hd, hr⟩
  dsimp only at hd hr ⊢
  have hE : ∀ h, A h → ErrT h := fun h a => (hA h a).1
  cases r with
  | nil =>
    rw [List.append_nil] at hd
    subst hd
    repeat (first | refine GO ?_ | refine NW fun _ => ?_)
    refine WL.step rfl (OP.call (pre := [blk p [old] 248, A]) rfl rfl (as_faultsN p c _ A hu hE) PS rfl rfl ?_)
    rintro _ _ ⟨rfl, rfl⟩
    repeat (first | refine GO ?_ | refine NW fun _ => ?_)
    exact ret1 rfl ⟨[_], ⟨a, cap, by rw [List.length_map], by rw [List.length_map]⟩, II⟩
  | cons x r =>
    have hdl : d.length < 1000 := by rw [← hd, List.length_append] at hl; omega
    repeat (first | refine GO ?_ | refine NW fun _ => ?_)
    refine WL.step rfl (OP.call (pre := [blk p [old] 248, A]) rfl rfl (as_faults x.1 p _ A hu hE) PS rfl rfl ?_)
    rintro _ _ ⟨rfl, rfl⟩
    repeat (first | refine GO ?_ | refine NW fun _ => ?_)
    refine WL.step rfl (OP.append rfl rfl rfl rfl rfl rfl rfl rfl rfl P1 (Ent.own MM) rfl (by omega) (by omega) rfl rfl (fun a2 cap2 => ?_))
    repeat (first | refine GO ?_ | refine NW fun _ => ?_)
    refine WL.step rfl (OP.load1 (v := valOf r c) rfl rfl rfl rfl (Ent.mem (A := A) MM hu (fun h y => cellsAt_one (i := 2) (hr h y).1 rfl)) rfl rfl ?_)
    repeat (first | refine GO ?_ | refine NW fun _ => ?_)
    exact ⟨(d ++ [x], r, .pointer (some ⟨x.1, 0, none⟩), a2, cap2), ⟨by rw [← hd]; simp, fun h a => (hr h a).2⟩, by dsimp only; simp, ⟨rfl, by rw [List.length_append]; rfl, rfl, trivial⟩, by rw [List.length_append, List.map_append]; exact II⟩
/-- the outermost one of a name -/
def firstC (op : ByteArray) : List (ByteArray × Int) → Option Int
  | [] => none
  | x :: r => if x.1 = op then some x.2 else firstC op r
def firstV (o : Option Int) : Value := match o with
  | some n => .tuple #[.int .i64 n, .bool true]
  | none => .tuple #[.int .i64 0, .bool false]
theorem chainR_get : ∀ {ch : Chain} {c : Int} {h : Hp}, chainR ch c h → ∀ k (hk : k < ch.length), ∃ v, cellsAt ch[k].1 0 [.string ch[k].2.1, .int .i64 ch[k].2.2, v] h
  | x :: r, c, h, hh, 0, _ => ⟨_, hh.1⟩
  | x :: r, c, h, hh, k + 1, hk => chainR_get hh.2 k (by simpa using hk)
theorem cellsAt_pre {b off : Nat} {l m : List Value} {h : Hp} (x : cellsAt b off (l ++ m) h) : cellsAt b off l h := by
  obtain ⟨c, T, fr, hb, hc⟩ := x
  exact ⟨c, T, fr, hb, fun i v hi => hc i v (by rw [List.getElem?_append_left (List.getElem?_eq_some_iff.1 hi).1]; exact hi)⟩
set_option maxHeartbeats 1000000 in
set_option maxRecDepth 10000 in
theorem firstC_ro (ch : Chain) (c : Int) (op : ByteArray) (hl : ch.length < 1000) : RO G 80 [valOf ch c, .string op] (chainE ch c) (firstV (firstC op (ch.map Prod.snd))) := by
  refine RO.enter Tryz.func80 rfl (by decide) rfl Tryz.ntmps80 rfl (fun A hu hA => ?_) (up_chainE _ _)
  repeat (first | refine GO ?_ | refine NW fun _ => ?_)
  refine WL.step rfl (OP.callRT rfl rfl (faultsC ch c hl) (Ent.mem MM hu hA) rfl rfl ?_)
  rintro v E ⟨a, cap, rfl, rfl⟩
  rw [List.length_map]
  repeat (first | refine GO ?_ | refine NW fun _ => ?_)
  refine WC.loop (σ := Nat) (fun k => k ≤ ch.length ∧ firstC op (ch.map Prod.snd) = firstC op ((ch.drop k).map Prod.snd)) (fun k => [(1, .val (.string op)), (9, .val (.slice a ch.length cap)), (10, .val (.int .i64 ch.length)), (11, .val (.int .i64 k))]) (fun _ => [ownS a ch.length cap 248 1 (ch.map ptrOf), A]) (fun k => ch.length - k) 0 ⟨Nat.zero_le _, rfl⟩ ⟨rfl, rfl, rfl, rfl, trivial⟩ II ?_
  rintro k ⟨hk, hf⟩
  by_cases hlt : k < ch.length
  rotate_left
  · rw [List.drop_eq_nil_of_le (by omega)] at hf
    rw [hf]
    repeat (first | refine GD ?_ | refine NW fun _ => ?_)
    exact ret2 rfl rfl ⟨rfl, MM⟩
  rw [List.drop_eq_getElem_cons hlt, List.map_cons] at hf
  refine WC.fact (Ent.some (Ent.own (a := a) (n := ch.length) (cap := cap) (T := 248) (size := 1) (cs := ch.map ptrOf) MM) (by omega)) ?_
  rintro ⟨b2, off2, rfl⟩
  have hg : ∀ {L}, A ∈ L → Ent L (cellsAt ch[k].1 0 [.string ch[k].2.1, .int .i64 ch[k].2.2]) := fun m => Ent.mem m hu fun h a => by
    obtain ⟨v, hv⟩ := chainR_get (hA h a).2 k hlt
    exact cellsAt_pre (m := [v]) hv
  have hel : (ch.map ptrOf)[k * 1]? = some (ptrOf ch[k]) := by simp [hlt]
  generalize ch[k] = x at *
  repeat (first | refine GD ?_ | refine NW fun _ => ?_)
  refine WL.step rfl (OP.load1 (v := .pointer (some ⟨x.1, 0, none⟩)) rfl rfl rfl rfl (Ent.elem (i := k * 1) (Ent.own (T := 248) MM) rfl hel) rfl rfl ?_)
  repeat (first | refine GD ?_ | refine NW fun _ => ?_)
  refine WL.step rfl (OP.load1 (v := .string x.2.1) rfl rfl rfl rfl (Ent.one (i := 0) (hg MM) rfl) rfl rfl ?_)
  by_cases ho : x.2.1 = op
  · rw [hf, firstC, if_pos ho]
    repeat (first | refine GD ?_ | refine NW fun _ => ?_)
    refine WL.step rfl (OP.load1 (v := .int .i64 x.2.2) rfl rfl rfl rfl (Ent.one (i := 1) (hg MM) rfl) rfl rfl ?_)
    repeat (first | refine GD ?_ | refine NW fun _ => ?_)
    exact ret2 rfl rfl ⟨rfl, MM⟩
  · rw [firstC, if_neg ho] at hf
    repeat (first | refine GD ?_ | refine NW fun _ => ?_)
    exact ⟨k + 1, ⟨by omega, hf⟩, by omega, ⟨rfl, rfl, rfl, rfl, trivial⟩, Imp.refl _⟩
end Go.Proofs.YtleajkobmhhacaaGreatDoor
/- Contracts of functions of the given program, and plain laws on what they compute: parts of the proofs of laws. -/

namespace Go.Proofs.YtleajkobmhhacaaGreatDoor
open Go Go.GL

set_option maxRecDepth 10000 in
theorem cplace_nil (at_ : Int) : RO G 17 [.nilIface, .int .i64 at_, .int .i64 0] (fun _ => True) (.bool true) := by
  refine RO.enter Tryz.func17 rfl (by decide) rfl Tryz.ntmps17 rfl (fun A hu hA => ?_) (fun _ _ _ h => h)
  repeat (first | refine GO ?_ | refine NW fun _ => ?_)
  refine WL.step rfl (OP.callRO rfl rfl (first_nil coordT) (fun _ _ => trivial) rfl rfl ?_)
  repeat (first | refine GD ?_ | refine NW fun _ => ?_)
  refine WL.step rfl (OP.callRO rfl rfl code_nil (fun _ _ => trivial) rfl rfl ?_)
  repeat (first | refine GD ?_ | refine NW fun _ => ?_)
  exact ret1 rfl ⟨rfl, MM⟩
set_option maxHeartbeats 1000000 in
set_option maxRecDepth 10000 in
theorem cplace_err (ch : Chain) (c at_ : Int) (l : List (ByteArray × Int)) (hch : ch.map Prod.snd = (coordT, at_) :: l) (hl : ch.length < 1000) (hc : c ≠ 0) : RO G 17 [valOf ch c, .int .i64 at_, .int .i64 c] (chainE ch c) (.bool true) := by
  refine RO.enter Tryz.func17 rfl (by decide) rfl Tryz.ntmps17 rfl (fun A hu hA => ?_) (up_chainE ch c)
  have hfc := firstC_ro ch c coordT hl
  have hfv : firstV (firstC coordT (ch.map Prod.snd)) = .tuple #[.int .i64 at_, .bool true] := by rw [hch]; rfl
  rw [hfv] at hfc
  have hcc := codeC ch c
  cases ch with
  | nil => cases hch
  | cons y ch =>
    dsimp only [valOf] at hfc hcc ⊢
    repeat (first | refine GO ?_ | refine NW fun _ => ?_)
    refine WL.step rfl (OP.callRO rfl rfl hfc (Ent.mem MM hu hA) rfl rfl ?_)
    repeat (first | refine GD ?_ | refine NW fun _ => ?_)
    refine WL.step rfl (OP.callRO rfl rfl hcc (Ent.mem MM hu hA) rfl rfl ?_)
    repeat (first | refine GD ?_ | refine NW fun _ => ?_)
    exact ret1 rfl ⟨rfl, MM⟩
end Go.Proofs.YtleajkobmhhacaaGreatDoor
/- Contracts of functions of the given program, and plain laws on what they compute: parts of the proofs of laws. -/

namespace Go.Proofs.YtleajkobmhhacaaGreatDoor
open Go Go.GL

theorem cmd_of {x : List Value} (h : LfsOk [.int .i64, .int .i64, .int .i64] x) : ∃ c : Cmd, x = encCmd c ∧ True := by
  obtain ⟨k, s, rfl, _, h1⟩ := h.int
  obtain ⟨n, s2, rfl, _, h2⟩ := h1.int
  obtain ⟨m, s3, rfl, _, h3⟩ := h2.int
  rw [h3.nil]
  exact ⟨(k, n, m), rfl, trivial⟩
end Go.Proofs.YtleajkobmhhacaaGreatDoor
/- Two branches that meet again, behind the rest of a region. -/
namespace Go.GL
open Go
theorem wpList_mono {P : Program} {ops : Array Oper} {Q Q' : Exit → Act → World → Prop} (hq : ∀ e a w, Q e a w → Q' e a w) : ∀ (l : List Oper) (a : Act) (w : World), wpList P ops Q l a w → wpList P ops Q' l a w
  | [], _, _, h => hq _ _ _ h
  | o :: l, a, w, h => by
    unfold wpList at h ⊢
    split at h
    · rename_i hw
      rw [if_pos hw]
      rcases h with h | ⟨h1, a2, w2, h2⟩
      · exact .inl (wp_oper_mono (fun a w x => wpList_mono hq l a w x) hq h)
      · exact .inr ⟨h1, a2, w2, hq _ _ _ h2⟩
    · rename_i hw
      rw [if_neg hw]
      exact wpList_mono hq l _ _ h
theorem WL.mono {G : Ctx} {N : Nat} {ops : Array Oper} {rest : List Oper} {env : Env} {L : List Assn} {k k' : Kont} (h : WL G N ops rest env L k) (f : ∀ e env L, k e env L → k' e env L) : WL G N ops rest env L k' :=
  .mk fun a w ha hs => wpList_mono (lift_mono f) _ _ _ (h a w ha hs)
/-- the rest of a region and the code behind it up to a point, where what holds is told anew -/
theorem WL.meet {G : Ctx} {N : Nat} {ops : Array Oper} {rest : List Oper} {env : Env} {L : List Assn} {x y : Code} {k : Kont} (k' : Env → List Assn → Prop) (hx : WL G N ops rest env L (seqK G N x (fun e E M => match e with | .normal => k' E M | e => k e E M)))
    (hy : ∀ E M, k' E M → WC G N y E M k) : WL G N ops rest env L (seqK G N (.seq x y) k) :=
  hx.mono (fun e E M h => by
    cases e with
    | normal => exact WC.meet k' h hy
    | _ => exact h)
/-- the same where the code up to the point is all that the region's end leads to -/
theorem WL.meet0 {G : Ctx} {N : Nat} {ops : Array Oper} {rest : List Oper} {env : Env} {L : List Assn} {y : Code} {k : Kont} (k' : Env → List Assn → Prop) (hx : WL G N ops rest env L (fun e E M => match e with | .normal => k' E M | e => k e E M))
    (hy : ∀ E M, k' E M → WC G N y E M k) : WL G N ops rest env L (seqK G N y k) :=
  hx.mono (fun e E M h => by
    cases e with
    | normal => exact hy _ _ h
    | _ => exact h)
theorem meetK {G : Ctx} {N : Nat} {x y : Code} {k : Kont} {k' : Env → List Assn → Prop} (hy : ∀ E M, k' E M → WC G N y E M k) : ∀ e E M, seqK G N x (fun e E M => match e with | .normal => k' E M | e => k e E M) e E M → seqK G N (.seq x y) k e E M := fun e E M h => by
  cases e with
  | normal => exact WC.meet k' h hy
  | _ => exact h
theorem seqK_up {G : Ctx} {N : Nat} {b y : Code} {K1 k : Kont} (h : ∀ e E M, K1 e E M → seqK G N y k e E M) : ∀ e E M, seqK G N b K1 e E M → seqK G N (.seq b y) k e E M := fun e E M x => by
  cases e with
  | normal => exact WC.seq (WC.mono x h)
  | _ => exact h _ E M x
/-- as WL.meet, with two pieces of code between -/
theorem WL.meet3 {G : Ctx} {N : Nat} {ops : Array Oper} {rest : List Oper} {env : Env} {L : List Assn} {b c x y : Code} {k : Kont} (k' : Env → List Assn → Prop)
    (hx : WL G N ops rest env L (seqK G N b (seqK G N c (seqK G N x (fun e E M => match e with | .normal => k' E M | e => k e E M))))) (hy : ∀ E M, k' E M → WC G N y E M k) : WL G N ops rest env L (seqK G N (.seq b (.seq c (.seq x y))) k) :=
  hx.mono (seqK_up (seqK_up (meetK hy)))
/-- one shape of what holds at a meeting point -/
def Meet {σ : Type} (I : σ → Prop) (E : σ → Env) (M : σ → List Assn) (env : Env) (L : List Assn) : Prop := ∃ s, I s ∧ SubEnv (E s) env ∧ Imp L (M s)
theorem Meet.go {σ : Type} {I : σ → Prop} {E : σ → Env} {M : σ → List Assn} {G : Ctx} {N : Nat} {y : Code} {k : Kont} (h : ∀ s, I s → WC G N y (E s) (M s) k) (env : Env) (L : List Assn) (m : Meet I E M env L) : WC G N y env L k := by
  obtain ⟨s, hi, hs, hm⟩ := m
  exact WC.sub hs (WC.imp hm (h s hi))
end Go.GL
/- Contracts of functions of the given program, and plain laws on what they compute: parts of the proofs of laws. -/

namespace Go.Proofs.YtleajkobmhhacaaGreatDoor
open Go Go.GL

/-! what CoordPlays needs of the plain model -/
abbrev POp := Int × Int × Cmd × Bool × Bool × Int
def encPo (o : POp) : List Value := [.int .i64 o.1, .int .i64 o.2.1, .int .i64 o.2.2.1.1, .int .i64 o.2.2.1.2.1, .int .i64 o.2.2.1.2.2, .bool o.2.2.2.1, .bool o.2.2.2.2.1, .int .u64 o.2.2.2.2.2]
theorem encPo_len (o : POp) : (encPo o).length = 8 := rfl
theorem begin_er {C : Crd} {l : List (ByteArray × Int)} {c : Int} (h : beginC C = .error (l, c)) : (∃ l', l = (coordT, C.last + 1) :: l' ∧ l'.length ≤ 2) ∧ c ≠ 0 := by
  unfold beginC at h
  split at h
  · cases h; exact ⟨⟨[], rfl, by decide⟩, by decide⟩
  · split at h
    · cases h; exact ⟨⟨[], rfl, by decide⟩, by decide⟩
    · split at h
      · rename_i h2
        cases h
        refine ⟨⟨_, rfl, ?_⟩, appendM_ne0 h2⟩
        unfold appEr
        split <;> simp
      · cases h
theorem answer_er {C : Crd} {k : Cmd} {l : List (ByteArray × Int)} {c : Int} (h : answerC C k = .error (l, c)) : (∃ l', l = (coordT, k.2.2) :: l' ∧ l'.length ≤ 2) ∧ c ≠ 0 := by
  unfold answerC at h
  split at h
  · rename_i e he
    cases h
    refine ⟨⟨_, rfl, by simp⟩, ?_⟩
    unfold answerR at he
    repeat' split at he
    all_goals first | (cases he; decide) | cases he
  · cases h
theorem change_er {C : Crd} {v : Int} {inn : Bool} {l : List (ByteArray × Int)} {c : Int} (h : changeC C v inn = .error (l, c)) : (∃ l', l = (coordT, v) :: l' ∧ l'.length ≤ 2) ∧ c ≠ 0 := by
  unfold changeC at h
  split at h
  · cases h; exact ⟨⟨[], rfl, by decide⟩, by decide⟩
  · split at h
    · rename_i h2
      cases h
      exact ⟨⟨_, rfl, by simp⟩, putM_ne0 h2⟩
    · split at h
      · rename_i h2
        cases h
        refine ⟨⟨_, rfl, ?_⟩, appendM_ne0 h2⟩
        unfold appEr
        split <;> simp
      · cases h
theorem open_er {D : Dsk} {ring : Int} {fl : List Int} {l : List (ByteArray × Int)} {c : Int} (h : openC D ring fl = .error (l, c)) : (∃ l', l = (coordT, 0) :: l' ∧ l'.length ≤ 2) ∧ c ≠ 0 := by
  unfold openC at h
  split at h
  · rename_i h2
    cases h
    refine ⟨⟨_, rfl, by simp⟩, ?_⟩
    rcases newM_code h2 with h | h <;> omega
  · split at h
    · rename_i h2
      cases h
      exact ⟨⟨_, rfl, by simp⟩, openM_ne0 h2⟩
    · cases h
theorem nod_at {n q : Nat} {fv : Fst} {C : Crd} {L : List Assn} (m : nodA n q fv C ∈ L) {i : Nat} {v : Value} (hv : ∀ x, (nodC q fv C x)[i]? = some v) : Ent L (cellAt n (0 + i) v) :=
  Ent.mem m (up_nodA _ _ _ _) fun h ⟨x, s⟩ => cellsAt_one (i := i) ((Ent.whole (b := n) (c := nodC q fv C x) (T := nqT) (List.Mem.head _)) h s) (hv x)
/-- what holds between two calls -/
structure PlayI (k : Nat) (f : List Bool) (r : Nat) (C : Crd) (told : List Cmd) : Prop where
  I : CInv C (3 + 4 * (k : Int))
  f : C.f = f
  ring : C.J.ring = r
  told : told.length ≤ 8 * (k + 1)
theorem cmd_ones (l : List Cmd) : allOne (l.flatMap encCmd) = true := by
  induction l with
  | nil => rfl
  | cons x r ih => rw [List.flatMap_cons]; simpa [encCmd, allOne, one] using ih
abbrev PSt := Crd × List Cmd × Option Addr × Nat × List Cmd × Option Addr × Nat
end Go.Proofs.YtleajkobmhhacaaGreatDoor
/- Contracts of functions of the given program, and plain laws on what they compute: parts of the proofs of laws. -/
namespace Go.Proofs.YtleajkobmhhacaaGreatDoor
open Go Go.GL

theorem lacks_fresh4 (R : Rnd) (p : Int) : lacksM (R.fresh p) = R.vols := by
  unfold lacksM
  exact List.filter_eq_self.2 (fun x _ => (rfl : (!false) = true))
theorem enter_few {R : Rnd} {p : Int} (h : R.vols.length ≤ 4) : (R.enter p).1.length ≤ 4 := by
  show (tellL (R.fresh p)).length ≤ 4
  unfold tellL
  rw [List.length_map, lacks_fresh4]
  exact h
theorem next_few {R : Rnd} (h : R.vols.length ≤ 4) : (nextR R).1.length ≤ 4 := by
  unfold nextR
  split
  · exact enter_few (R := { R with marked := true }) h
  · split
    · exact enter_few h
    · exact Nat.zero_le _
theorem answer_few {R : Rnd} {last : Int} (I : RI R last) {c : Cmd} {l : List Cmd} {R' : Rnd} (h : answerR R c = .ok (l, R')) : l.length ≤ 4 := by
  unfold answerR at h
  split at h
  · cases h
  split at h
  · cases h
  split at h
  · cases h; exact Nat.zero_le _
  · have h2 : (nextR { R with ans := setA R.ans c.2.1 }).1 = l := congrArg Prod.fst (Except.ok.inj h)
    rw [← h2]
    exact next_few (R := { R with ans := setA R.ans c.2.1 }) I.vl
theorem tick_few {C : Crd} {last : Int} (I : RI C.R last) : (tickC C).1.length ≤ 4 := by
  show (tickR C.R).1.length ≤ 4
  unfold tickR
  split
  · exact Nat.zero_le _
  split
  · exact Nat.zero_le _
  split
  · exact enter_few (R := { C.R with left := C.R.left - 1 }) I.vl
  · show (tellL C.R).length ≤ 4
    unfold tellL
    rw [List.length_map]
    exact Nat.le_trans (List.length_filter_le _ _) I.vl
end Go.Proofs.YtleajkobmhhacaaGreatDoor
