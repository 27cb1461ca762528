/- Contracts of functions of the given program, and plain laws: parts of the proofs of laws. -/
import Derived.Test.YtleajkobmhhacaaGreatDoorZCQ3
import Derived.Laws.Externs
import Derived.Stop.Asserts
import Derived.MapKept
import Derived.Below
import Derived.Laws.AppendOwn
import Derived.Maps.RangeRun
/- Quiet operations of drawn regions, guarded or not, by what they come to. -/
namespace Go.GL
open Go
/-- What an operation comes to where S holds; it changes nothing. -/
structure Quiet (G : Ctx) (N : Nat) (env : Env) (S : List Assn) (o : Oper) (v : Value) : Prop where
  run : ∀ a w, Agree N env a → Sat S w → (execOp a.eval o).run G.P w = .ok (.value v) w
section
variable {G : Ctx} {N : Nat} {env : Env} {L S : List Assn} {o : Oper} {post : Env → List Assn → Prop} {d : Nat}
theorem Quiet.pure {nw : Bool} {c : Option Prop} {v : Value} (he : ev G.T nw none env o.op = some (c, v)) (hc : Holds c) : Quiet G N env S o v := ⟨fun _ w ha _ => ev_ok G.ok he hc trivial ha w⟩
theorem Quiet.load {t : TypeId} {x : Operand} {b off : Nat} {ti : TI} {v : Value} (ho : o.op = .load t x) (hx : rd none env x = some (none, .pointer (some ⟨b, off, none⟩))) (hti : G.T.find t = some ti) (hv : Loads S ti b off v) : Quiet G N env S o v :=
  ⟨fun _ _ ha hs => run_loads G.ok ho (rd_plain hx ha) hti hv hs⟩
theorem Quiet.eqAgg {b : Bool} (e : EqAgg G env o.op b) : Quiet G N env S o (.bool b) := ⟨fun a w ha _ => e.run N a w o rfl ha⟩
theorem Quiet.pickT {x y z : Operand} {v : Value} (ho : o.op = .pick x y z) (hx : rd none env x = some (none, .bool true)) (hv : rd none env y = some (none, v)) : Quiet G N env S o v :=
  ⟨fun a w ha _ => by rw [execOp, ho]; simp [rd_plain hx ha, rd_plain hv ha, asBool]⟩
theorem Quiet.pickF {x y z : Operand} {v : Value} (ho : o.op = .pick x y z) (hx : rd none env x = some (none, .bool false)) (hv : rd none env z = some (none, v)) : Quiet G N env S o v :=
  ⟨fun a w ha _ => by rw [execOp, ho]; simp [rd_plain hx ha, rd_plain hv ha, asBool]⟩
/-- string(b) -/
theorem Quiet.toStr {s t e : TypeId} {x : Operand} {a : Option Addr} {n cap : Nat} {sv : ByteArray} {tis tit tie : TI} (ho : o.op = .convert s t x) (hx : rd none env x = some (none, .slice a n cap)) (hs : G.T.find s = some tis) (hsd : tis.desc = .slice e) (ht : G.T.find t = some tit) (htd : tit.desc = .string)
    (hte : G.T.find e = some tie) (hed : tie.desc = .int .u8) (hr : Ent S (readS a n 1 (strCells sv))) : Quiet G N env S o (.string sv) :=
  ⟨fun ac w ha hsat => by
    have us : G.P.underlying s = some (.slice e) := hsd ▸ (Tab.find_ok G.ok hs).desc
    have ut : G.P.underlying t = some .string := htd ▸ (Tab.find_ok G.ok ht).desc
    have ue : G.P.underlying e = some (.int .u8) := hed ▸ (Tab.find_ok G.ok hte).desc
    rw [execOp, ho]
    refine val_run ?_
    obtain ⟨e1, hh⟩ := hr _ hsat
    simp only [convert, Sem.run_bind, run_underlying us, run_underlying ut, Result.andThen_ok, rd_plain hx ha, run_underlying ue]
    rcases hh with ⟨rfl, rfl⟩ | ⟨b, off, rfl, hc⟩
    · have : sv = ByteArray.empty := by
        rw [strCells_length] at e1
        have h0 : sv.size = 0 := by simpa using e1
        exact ByteArray.size_eq_zero_iff.1 h0
      simp [Conv.bytesToString, this]
    · have hl := run_cells (P := G.P) hc (strCells sv).length 0 #[] (by omega)
      simp only [List.drop_zero, Array.empty_append] at hl
      have e1 : (strCells sv).length = n := by simpa using e1
      have hl' : (loadCells ⟨b, off, none⟩ n).run G.P w = .ok (strCells sv).toArray w := by rw [← e1]; exact hl
      simp only [Conv.bytesToString, Sem.run_bind, hl', Result.andThen_ok]
      rw [List.forIn_toArray]
      unfold strCells
      rw [push_all (fun b s => by simp [byteV]) sv.data.toList ByteArray.empty G.P w]
      simp⟩
theorem OP.quiet {v : Value} (h : Quiet G N env L o v) (hd : o.dst = some d) (hN : Nat.blt d N = true) (k : post ((d, .val v) :: env) L) : OP G N o env L post := .run (fun a w ha hs => h.run a w ha hs) hd hN k
end
section
variable {G : Ctx} {N : Nat} {env : Env} {L S : List Assn} {k : Kont} {n : Nat} {fuel : Nat} {listed : Array Bool} {l : List Oper} {o : Oper}
theorem WH.q (i : Nat) {d : Nat} {v : Value} (hi : l.toArray[i]? = some o) (hg : o.guard = none) (hs : Region.noSelect l.toArray = true) (hf : Region.free .any l.toArray listed i = true) (hr : (Region.ready .any l.toArray listed).contains i = true)
    (hk : ∀ c env L, ¬ k (.panic c) env L) (hin : (Nat.blt i n && tailI l.toArray n i) = true) (hq : Quiet G N env S o v) (hdst : o.dst = some d) (hN : Nat.blt d N = true)
    (h : WH G N l.toArray n S true fuel (listed.setIfInBounds i true) ((d, .val v) :: env) L k) : WH G N l.toArray n S true (fuel + 1) listed env L k := .mk fun a w ha hsat hS hcl => by
  have hri : i ∈ Region.ready .any l.toArray listed := by simpa using hr
  have hin' : i < n := by simp only [Bool.and_eq_true] at hin; simpa [Nat.blt_eq] using hin.1
  have htl : tailI l.toArray n i = true := by simp only [Bool.and_eq_true] at hin; exact hin.2
  refine wpB_first (R := Sat S) hi (Region.noSelect_spec hs) (fun c a w => noPanic hk c a w _ _) fuel true listed a w (.inr hin') (.inr ⟨rfl, htl, fun _ h => h⟩) hcl (Region.free_spec hi hf) hri
    (.inl ⟨by simp [Region.wanted, hg], fun w hw => hq.run a w ha hw⟩) (hS rfl) (fun _ => hS rfl) ?_
  rw [hdst]; exact h _ w (ha.put hN v) hsat hS (hcl.set hri)
/-- its guard says yes -/
theorem WH.gT (i : Nat) {j jt d : Nat} {want : Bool} {oj : Oper} {v : Value} (hi : l.toArray[i]? = some o) (hg : o.guard = some (j, want)) (hj : l.toArray[j]? = some oj) (hjt : oj.dst = some jt) (hw : gdOf env jt want = some true)
    (hs : Region.noSelect l.toArray = true) (hf : Region.free .any l.toArray listed i = true) (hr : (Region.ready .any l.toArray listed).contains i = true)
    (hk : ∀ c env L, ¬ k (.panic c) env L) (hin : (Nat.blt i n && tailI l.toArray n i) = true) (hq : Quiet G N env S o v) (hdst : o.dst = some d) (hN : Nat.blt d N = true)
    (h : WH G N l.toArray n S true fuel (listed.setIfInBounds i true) ((d, .val v) :: env) L k) : WH G N l.toArray n S true (fuel + 1) listed env L k := .mk fun a w ha hsat hS hcl => by
  have hri : i ∈ Region.ready .any l.toArray listed := by simpa using hr
  have hin' : i < n := by simp only [Bool.and_eq_true] at hin; simpa [Nat.blt_eq] using hin.1
  have htl : tailI l.toArray n i = true := by simp only [Bool.and_eq_true] at hin; exact hin.2
  have hw := gdOf_ok (ops := l.toArray) ha hw hj hjt hg
  refine wpB_first (R := Sat S) hi (Region.noSelect_spec hs) (fun c a w => noPanic hk c a w _ _) fuel true listed a w (.inr hin') (.inr ⟨rfl, htl, fun _ h => h⟩) hcl (Region.free_spec hi hf) hri
    (.inl ⟨hw, fun w hw => hq.run a w ha hw⟩) (hS rfl) (fun _ => hS rfl) ?_
  rw [hdst]; exact h _ w (ha.put hN v) hsat hS (hcl.set hri)
/-- what a guard's temporary says no to -/
def gdNo (env : Env) (t : Nat) (want : Bool) : Bool :=
  match want, Env.get env t with
  | true, some (.val (.bool false)) => true
  | false, some (.val (.bool true)) => true
  | _, some (.val (.tuple ⟨[]⟩)) => true
  | _, _ => false
theorem gdNo_ok {a : Act} (ha : Agree N env a) {t : Nat} {want : Bool} (h : gdNo env t want = true) {ops : Array Oper} {j : Nat} {oj : Oper} (hj : ops[j]? = some oj) (hd : oj.dst = some t) (hg : o.guard = some (j, want)) :
    Region.wanted o (yielded ops a.tmps) = false := by
  simp only [Region.wanted, hg, yielded, hj, hd, Option.bind_some]
  unfold gdNo at h
  split at h
  · rename_i hs
    have := ha.at_ _ _ hs
    simp only [Slot.fits] at this
    rw [this]
    rfl
  · rename_i hs
    have := ha.at_ _ _ hs
    simp only [Slot.fits] at this
    rw [this]
    rfl
  · rename_i hs
    have := ha.at_ _ _ hs
    simp only [Slot.fits] at this
    rw [this]
    rfl
  · cases h
/-- its guard says no -/
theorem WH.gF (i : Nat) {j jt d : Nat} {want : Bool} {oj : Oper} (hi : l.toArray[i]? = some o) (hg : o.guard = some (j, want)) (hj : l.toArray[j]? = some oj) (hjt : oj.dst = some jt) (hw : gdNo env jt want = true)
    (hs : Region.noSelect l.toArray = true) (hf : Region.free .any l.toArray listed i = true) (hr : (Region.ready .any l.toArray listed).contains i = true)
    (hk : ∀ c env L, ¬ k (.panic c) env L) (hin : (Nat.blt i n && tailI l.toArray n i) = true) (hdst : o.dst = some d) (hN : Nat.blt d N = true)
    (h : WH G N l.toArray n S true fuel (listed.setIfInBounds i true) ((d, .val undef) :: env) L k) : WH G N l.toArray n S true (fuel + 1) listed env L k := .mk fun a w ha hsat hS hcl => by
  have hri : i ∈ Region.ready .any l.toArray listed := by simpa using hr
  have hin' : i < n := by simp only [Bool.and_eq_true] at hin; simpa [Nat.blt_eq] using hin.1
  have htl : tailI l.toArray n i = true := by simp only [Bool.and_eq_true] at hin; exact hin.2
  have hw := gdNo_ok (ops := l.toArray) ha hw hj hjt hg
  refine wpB_first (R := Sat S) (v := undef) hi (Region.noSelect_spec hs) (fun c a w => noPanic hk c a w _ _) fuel true listed a w (.inr hin') (.inr ⟨rfl, htl, fun _ h => h⟩) hcl (Region.free_spec hi hf) hri
    (.inr ⟨hw, rfl⟩) (hS rfl) (fun _ => hS rfl) ?_
  rw [hdst]; exact h _ w (ha.put hN _) hsat hS (hcl.set hri)
end
section
variable {G : Ctx} {env : Env} {L : List Assn}
theorem ret2c {p : Value → List Assn → Prop} {t u ty b off : Nat} {ti : TI} {v : Value} {l : List Value} (h1 : Env.get env t = some (.val v)) (h2 : Env.get env u = some (.val (.pointer (some ⟨b, off, none⟩)))) (ht : G.T.find ty = some ti) (hg : ti.agg = true) (hl : l.length = ti.size) (hc : Ent L (cellsAt b off l)) (h : p (.tuple #[v, .agg l.toArray]) L) :
    retK G [.tmp t, .cell u ty] p .ret env L := ⟨[v, .agg l.toArray], ⟨v, [.agg l.toArray], rfl, h1, b, off, _, [], ti, rfl, h2, ht, .inr ⟨hg, l, rfl, hl, hc⟩, rfl⟩, h⟩
theorem ret3c {p : Value → List Assn → Prop} {t u s ty b off : Nat} {ti : TI} {v x : Value} {l : List Value} (h1 : Env.get env t = some (.val v)) (h2 : Env.get env u = some (.val (.pointer (some ⟨b, off, none⟩)))) (h3 : Env.get env s = some (.val x)) (ht : G.T.find ty = some ti) (hg : ti.agg = true) (hl : l.length = ti.size) (hc : Ent L (cellsAt b off l)) (h : p (.tuple #[v, .agg l.toArray, x]) L) :
    retK G [.tmp t, .cell u ty, .tmp s] p .ret env L := ⟨[v, .agg l.toArray, x], ⟨v, [.agg l.toArray, x], rfl, h1, b, off, _, [x], ti, rfl, h2, ht, .inr ⟨hg, l, rfl, hl, hc⟩, x, [], rfl, h3, rfl⟩, h⟩
end
end Go.GL
/- Calls of functions without a body, by what they come to; calls through an interface. -/
namespace Go.GL
open Go
/-- A function without a body, and what it comes to. -/
def IsExt (P : Program) (f : FuncId) (e : Array Value → Sem Value) : Prop := ∀ args w, (callFunc f args).run P w = ((e args).run P w).andThen fun v w' => .ok (.value v) w'
section
variable {G : Ctx} {N : Nat} {env : Env} {L : List Assn} {o : Oper} {post : Env → List Assn → Prop} {d : Nat}
/-- What an operation that calls such a function comes to. -/
structure Execs (G : Ctx) (N : Nat) (env : Env) (o : Oper) (e : Array Value → Sem Value) (args : List Value) : Prop where
  run : ∀ a w, Agree N env a → (execOp a.eval o).run G.P w = ((e args.toArray).run G.P w).andThen fun v w' => .ok (.value v) w'
theorem Execs.call {f : FuncId} {xs : List Operand} {ats : Array TypeId} {vs : List Value} {e : Array Value → Sem Value} (he : IsExt G.P f e) (ho : o.op = .call ⟨.value (.func f), xs.toArray, ats⟩) (hv : rdAll env xs = some vs) : Execs G N env o e vs := ⟨fun a w ha => by
  rw [← he]
  simp only [execOp, ho, resolve, Act.eval, Deferred.ofValue, Sem.run_bind, Sem.run_pure, Result.andThen_ok, invoke]
  have := rdAll_ok ha hv
  simp [← this]⟩
theorem Execs.inv {f : FuncId} {recv : Operand} {name : String} {xs : List Operand} {ats : Array TypeId} {vs : List Value} {t : TypeId} {x r : Value} {e : Array Value → Sem Value} (he : IsExt G.P f e) (ho : o.op = .call ⟨.invoke recv name, xs.toArray, ats⟩) (hx : rd none env recv = some (none, .iface t x)) (hv : rdAll env xs = some vs)
    (hm : ∀ w, (method (G.P.types.size + Made.depth) t x name).run G.P w = .ok (f, r) w) : Execs G N env o e (r :: vs) := ⟨fun a w ha => by
  rw [← he]
  have h1 := rdAll_ok ha hv
  have h2 := rd_plain hx ha
  simp only [execOp, ho, resolve, Sem.run_bind, Sem.run_pure, Result.andThen_ok, invoke]
  simp [h2, h1, callMethod, hm]⟩
theorem OP.extP {e : Array Value → Sem Value} {vs : List Value} {v : Value} (x : Execs G N env o e vs) (hr : ∀ w, Sat L w → (e vs.toArray).run G.P w = .ok v w) (hd : o.dst = some d) (hN : Nat.blt d N = true) (h : post ((d, .val v) :: env) L) : OP G N o env L post :=
  .run (fun a w ha hs => by rw [x.run a w ha, hr w hs]; rfl) hd hN h
theorem OP.extNew {e : Array Value → Sem Value} {vs : List Value} {c : List Value} {T : TypeId} {mk : Nat → Value} (x : Execs G N env o e vs) (hr : ∀ w, Sat L w → (e vs.toArray).run G.P w = .ok (mk w.heap.size) (w.alloc (.cells c.toArray T))) (hd : o.dst = some d) (hN : Nat.blt d N = true)
    (h : ∀ b, post ((d, .val (mk b)) :: env) (blk b c T :: L)) : OP G N o env L post := .mk fun a w ha hs => by
  unfold Oper.wp
  rw [x.run a w ha, hr w hs]
  simp only [Result.andThen_ok, Oper.upon, hd]
  exact ⟨_, _, ha.put hN _, hs.new c T, h _⟩
theorem OP.extSet {e : Array Value → Sem Value} {vs : List Value} {v : Value} {b off : Nat} {c : List Value} {T : TypeId} {y : Value} {M : List Assn} (x : Execs G N env o e vs) (hr : ∀ w, Sat L w → (e vs.toArray).run G.P w = .ok v (w.setCell ⟨b, off, none⟩ y)) (hu : Upd L b c T (c.set off y) M) (hd : o.dst = some d) (hN : Nat.blt d N = true)
    (h : post ((d, .val v) :: env) M) : OP G N o env L post := .mk fun a w ha hs => by
  unfold Oper.wp
  rw [x.run a w ha, hr w hs]
  simp only [Result.andThen_ok, Oper.upon, hd]
  exact ⟨_, _, ha.put hN _, Sat.set hu hs, h⟩
/-- x.(I), with comma-ok -/
theorem OP.assert {x : Operand} {xT I t : TypeId} {v r : Value} (ho : o.op = .typeAssert x xT I true) (hx : rd none env x = some (none, .iface t v)) (hr : ∀ w, (Instr.typeAssert (.iface t v) xT I true).run G.P w = .ok r w) (hd : o.dst = some d) (hN : Nat.blt d N = true) (h : post ((d, .val r) :: env) L) : OP G N o env L post :=
  .run (fun a w ha _ => by
    rw [execOp, ho]
    refine val_run ?_
    rw [rd_plain hx ha]
    exact hr w) hd hN h
/-- a method that has a body, called through an interface -/
theorem OP.invRO {f : FuncId} {recv : Operand} {name : String} {ats : Array TypeId} {t : TypeId} {x r v : Value} {R : Assn} (ho : o.op = .call ⟨.invoke recv name, #[], ats⟩) (hx : rd none env recv = some (none, .iface t x))
    (hm : ∀ w, (method (G.P.types.size + Made.depth) t x name).run G.P w = .ok (f, r) w) (ht : RO G f [r] R v) (he : Ent L R) (hd : o.dst = some d) (hN : Nat.blt d N = true) (h : post ((d, .val v) :: env) L) : OP G N o env L post := .mk fun a w ha hs => by
  obtain ⟨dst, op, type, pos, after, guard⟩ := o
  simp only at ho hd
  subst ho hd
  have hcall : (execOp a.eval ⟨some d, .call ⟨.invoke recv name, #[], ats⟩, type, pos, after, guard⟩).run G.P w = .ok (.enter f [r].toArray) w := by
    obtain ⟨fn, c, h1, h2, h3⟩ := ht.enters.ex
    have h2' := rd_plain hx ha
    simp only [execOp, resolve, Sem.run_bind, Sem.run_pure, Result.andThen_ok, invoke]
    have h4 : ¬ fn.name = "runtime.NumGoroutine" := by simpa using h2
    simp [h2', callMethod, hm, callFunc, h1, h4, h3]
  unfold Oper.wp
  rw [hcall]
  simp only [Oper.upon]
  refine (ht.calls w (he _ hs)).mono ?_
  rintro e w' ⟨rfl, x⟩
  exact ⟨_, _, ha.put hN v, hs.ext x, h⟩
end
end Go.GL
/- In a drawn region: what its loads lean on may grow. -/
namespace Go.GL
open Go
theorem wpB_more {P : Program} {ops : Array Oper} {Q : Exit → Act → World → Prop} {S S' : World → Prop} {n : Nat} (h : ∀ w, S' w → S w) :
    ∀ (hd : Bool) (fuel : Nat) (listed : Array Bool) (a : Act) (w : World), wpB P ops Q S' n hd fuel listed a w → wpB P ops Q S n hd fuel listed a w
  | _, 0, _, _, _, x => x
  | _, fuel + 1, _, _, _, x => ⟨x.1, fun i hi => wpOp_mono (fun a' w' y => ⟨fun hin => h _ (y.1 hin), wpB_more h _ fuel _ a' w' y.2⟩) (x.2 i hi)⟩
/-- from here on the loads may lean on more -/
theorem WH.more {G : Ctx} {N : Nat} {ops : Array Oper} {n : Nat} {S : List Assn} (S' : List Assn) {fuel : Nat} {listed : Array Bool} {env : Env} {L : List Assn} {k : Kont} (hS : Imp S' S) (hL : Imp L S') (h : WH G N ops n S' true fuel listed env L k) : WH G N ops n S true fuel listed env L k :=
  .mk fun a w ha hs _ hcl => wpB_more (fun _ x => hS.sat x) _ fuel listed a w (h.go a w ha hs (fun _ => hL.sat hs) hcl)
end Go.GL
/- Short words for the steps of a proof. -/
namespace Go.GL
open Go
structure Hd (Q : Prop) : Prop where
  h : Q
theorem MM {α : Type} {a : α} {l : List α} (h : a ∈ l := by repeat (first | exact List.Mem.head _ | apply List.Mem.tail)) : a ∈ l := h
theorem II {L M : List Assn} (h : Imp L M := by exact (Imp.sub (by repeat (first | exact Picks.nil _ | apply Picks.cons | exact Pick.here _ _ | apply Pick.there)))) : Imp L M := h
theorem P1 {L M : List Assn} (h : Imp L M := by exact (Pick.imp (by repeat (first | exact Pick.here _ _ | apply Pick.there)))) : Imp L M := h
theorem PS {L M : List Assn} (h : Imp L M := by exact (Picks.imp (by repeat (first | exact Picks.nil _ | apply Picks.cons | exact Pick.here _ _ | apply Pick.there)))) : Imp L M := h
theorem UP {L M : List Assn} {b off : Nat} {vs : List Value} (h : UpdM L b off vs M := by exact (by repeat (first | exact UpdM.here rfl | apply UpdM.there))) : UpdM L b off vs M := h
theorem HN {L : List Assn} {b off : Nat} {v : Value} (h : HasNth L b off v := by exact (by repeat (first | exact HasNth.here rfl | apply HasNth.there))) : HasNth L b off v := h
theorem HC {L : List Assn} {b off n : Nat} {l : List Value} (h : HasCut L b off n l := by exact (by repeat (first | exact HasCut.here rfl | apply HasCut.there))) : HasCut L b off n l := h
theorem GO {P Q : Prop} (h : Q) (s : Hd Q → P := by
  intro hh
  (first
    | refine WC.seq ?_ | refine WC.region ?_ | refine WL.nil ?_ | with_reducible refine seqK.go ?_ | refine WC.block ?_ | refine WC.skip ?_ | refine WC.exit ?_ | refine WC.ret ?_
    | with_reducible refine seqK.exit ?_ | with_reducible refine seqK.ret ?_ | (with_reducible refine blockK.hit ?hb ?_; (case hb => rfl)) | (with_reducible refine blockK.miss ?hb ?_; (case hb => rfl)) | with_reducible refine blockK.normal ?_ | with_reducible refine blockK.ret ?_ | with_reducible refine loopK.exit ?_ | with_reducible refine loopK.ret ?_
    | refine WC.condT rfl ?_ | refine WC.condF rfl ?_
    | (refine WL.step rfl ?_; first | refine OP.pure (nw := true) rfl (by first | exact trivial | (simp only [Holds]; omega) | (simp [Holds]; done) | (simp [Holds]; omega)) rfl rfl ?_ | refine OP.pure (nw := false) rfl (by first | exact trivial | (simp only [Holds]; omega) | (simp [Holds]; done) | (simp [Holds]; omega)) rfl rfl ?_ | refine OP.pickT rfl rfl rfl rfl rfl ?_ | refine OP.pickF rfl rfl rfl rfl rfl ?_ | refine OP.loadN rfl rfl rfl rfl (by repeat (first | exact HasNth.here rfl | apply HasNth.there)) rfl rfl ?_ | refine OP.loadB rfl rfl rfl rfl rfl (by repeat (first | exact HasCut.here rfl | apply HasCut.there)) rfl rfl ?_ | refine OP.store rfl rfl rfl rfl rfl rfl rfl (by repeat (first | exact UpdM.here rfl | apply UpdM.there)) rfl ?_ | refine OP.buildT rfl rfl rfl rfl ?_ | refine OP.capS rfl rfl rfl rfl rfl rfl ?_)
    | (refine WL.guardT rfl rfl rfl rfl ?_; first | refine OP.pickT rfl rfl rfl rfl rfl ?_ | refine OP.pickF rfl rfl rfl rfl rfl ?_ | refine OP.pure (nw := true) rfl (by first | exact trivial | (simp only [Holds]; omega) | (simp [Holds]; done) | (simp [Holds]; omega)) rfl rfl ?_ | refine OP.pure (nw := false) rfl trivial rfl rfl ?_ | refine OP.loadN rfl rfl rfl rfl (by repeat (first | exact HasNth.here rfl | apply HasNth.there)) rfl rfl ?_ | refine OP.loadB rfl rfl rfl rfl rfl (by repeat (first | exact HasCut.here rfl | apply HasCut.there)) rfl rfl ?_ | refine OP.buildT rfl rfl rfl rfl ?_)
    | refine WL.guardF rfl rfl rfl rfl rfl rfl ?_ | refine WL.guardU rfl rfl rfl rfl rfl rfl ?_ | refine WL.guarded (nw := true) rfl rfl rfl rfl rfl rfl rfl (by first | exact trivial | (simp only [Holds]; omega) | (simp [Holds]; done) | (simp [Holds]; omega)) ?_)
  repeat (first
    | refine WC.seq ?_ | refine WC.region ?_ | refine WL.nil ?_ | with_reducible refine seqK.go ?_ | refine WC.block ?_ | refine WC.skip ?_ | refine WC.exit ?_ | refine WC.ret ?_
    | with_reducible refine seqK.exit ?_ | with_reducible refine seqK.ret ?_ | (with_reducible refine blockK.hit ?hb ?_; (case hb => rfl)) | (with_reducible refine blockK.miss ?hb ?_; (case hb => rfl)) | with_reducible refine blockK.normal ?_ | with_reducible refine blockK.ret ?_ | with_reducible refine loopK.exit ?_ | with_reducible refine loopK.ret ?_
    | refine WC.condT rfl ?_ | refine WC.condF rfl ?_
    | (refine WL.step rfl ?_; first | refine OP.pure (nw := true) rfl (by first | exact trivial | (simp only [Holds]; omega) | (simp [Holds]; done) | (simp [Holds]; omega)) rfl rfl ?_ | refine OP.pure (nw := false) rfl (by first | exact trivial | (simp only [Holds]; omega) | (simp [Holds]; done) | (simp [Holds]; omega)) rfl rfl ?_ | refine OP.pickT rfl rfl rfl rfl rfl ?_ | refine OP.pickF rfl rfl rfl rfl rfl ?_ | refine OP.loadN rfl rfl rfl rfl (by repeat (first | exact HasNth.here rfl | apply HasNth.there)) rfl rfl ?_ | refine OP.loadB rfl rfl rfl rfl rfl (by repeat (first | exact HasCut.here rfl | apply HasCut.there)) rfl rfl ?_ | refine OP.store rfl rfl rfl rfl rfl rfl rfl (by repeat (first | exact UpdM.here rfl | apply UpdM.there)) rfl ?_ | refine OP.buildT rfl rfl rfl rfl ?_ | refine OP.capS rfl rfl rfl rfl rfl rfl ?_)
    | (refine WL.guardT rfl rfl rfl rfl ?_; first | refine OP.pickT rfl rfl rfl rfl rfl ?_ | refine OP.pickF rfl rfl rfl rfl rfl ?_ | refine OP.pure (nw := true) rfl (by first | exact trivial | (simp only [Holds]; omega) | (simp [Holds]; done) | (simp [Holds]; omega)) rfl rfl ?_ | refine OP.pure (nw := false) rfl trivial rfl rfl ?_ | refine OP.loadN rfl rfl rfl rfl (by repeat (first | exact HasNth.here rfl | apply HasNth.there)) rfl rfl ?_ | refine OP.loadB rfl rfl rfl rfl rfl (by repeat (first | exact HasCut.here rfl | apply HasCut.there)) rfl rfl ?_ | refine OP.buildT rfl rfl rfl rfl ?_)
    | refine WL.guardF rfl rfl rfl rfl rfl rfl ?_ | refine WL.guardU rfl rfl rfl rfl rfl rfl ?_ | refine WL.guarded (nw := true) rfl rfl rfl rfl rfl rfl rfl (by first | exact trivial | (simp only [Holds]; omega) | (simp [Holds]; done) | (simp [Holds]; omega)) ?_)
  exact hh.h) : P := s ⟨h⟩
theorem GD {P Q : Prop} (h : Q) (s : Hd Q → P := by
  intro hh
  (first
    | refine WC.seq ?_ | refine WC.region ?_ | refine WL.nil ?_ | with_reducible refine seqK.go ?_ | refine WC.block ?_ | refine WC.skip ?_ | refine WC.exit ?_ | refine WC.ret ?_
    | with_reducible refine seqK.exit ?_ | with_reducible refine seqK.ret ?_ | (with_reducible refine blockK.hit ?hb ?_; (case hb => rfl)) | (with_reducible refine blockK.miss ?hb ?_; (case hb => rfl)) | with_reducible refine blockK.normal ?_ | with_reducible refine blockK.ret ?_ | with_reducible refine loopK.exit ?_ | with_reducible refine loopK.ret ?_
    | refine WC.condT rfl ?_ | refine WC.condF rfl ?_
    | (refine WL.step rfl ?_; first | refine OP.decT (nw := true) rfl trivial (by first | omega | assumption) rfl rfl ?_ | refine OP.decF (nw := true) rfl trivial (by first | omega | assumption) rfl rfl ?_ | refine OP.decNT (nw := true) rfl trivial (by first | omega | assumption) rfl rfl ?_ | refine OP.decNF (nw := true) rfl trivial (by first | omega | assumption) rfl rfl ?_ | refine OP.pure (nw := true) rfl (by first | exact trivial | (simp only [Holds]; omega) | (simp [Holds]; done) | (simp [Holds]; omega)) rfl rfl ?_ | refine OP.pure (nw := false) rfl (by first | exact trivial | (simp only [Holds]; omega) | (simp [Holds]; done) | (simp [Holds]; omega)) rfl rfl ?_ | refine OP.pickT rfl rfl rfl rfl rfl ?_ | refine OP.pickF rfl rfl rfl rfl rfl ?_ | refine OP.loadN rfl rfl rfl rfl (by repeat (first | exact HasNth.here rfl | apply HasNth.there)) rfl rfl ?_ | refine OP.loadB rfl rfl rfl rfl rfl (by repeat (first | exact HasCut.here rfl | apply HasCut.there)) rfl rfl ?_ | refine OP.store rfl rfl rfl rfl rfl rfl rfl (by repeat (first | exact UpdM.here rfl | apply UpdM.there)) rfl ?_ | refine OP.buildT rfl rfl rfl rfl ?_ | refine OP.capS rfl rfl rfl rfl rfl rfl ?_)
    | (refine WL.guardT rfl rfl rfl rfl ?_; first | refine OP.decT (nw := true) rfl trivial (by first | omega | assumption) rfl rfl ?_ | refine OP.decF (nw := true) rfl trivial (by first | omega | assumption) rfl rfl ?_ | refine OP.decNT (nw := true) rfl trivial (by first | omega | assumption) rfl rfl ?_ | refine OP.decNF (nw := true) rfl trivial (by first | omega | assumption) rfl rfl ?_ | refine OP.pickT rfl rfl rfl rfl rfl ?_ | refine OP.pickF rfl rfl rfl rfl rfl ?_ | refine OP.pure (nw := true) rfl (by first | exact trivial | (simp only [Holds]; omega) | (simp [Holds]; done) | (simp [Holds]; omega)) rfl rfl ?_ | refine OP.pure (nw := false) rfl trivial rfl rfl ?_ | refine OP.loadN rfl rfl rfl rfl (by repeat (first | exact HasNth.here rfl | apply HasNth.there)) rfl rfl ?_ | refine OP.loadB rfl rfl rfl rfl rfl (by repeat (first | exact HasCut.here rfl | apply HasCut.there)) rfl rfl ?_ | refine OP.buildT rfl rfl rfl rfl ?_)
    | refine WL.guardF rfl rfl rfl rfl rfl rfl ?_ | refine WL.guardU rfl rfl rfl rfl rfl rfl ?_ | refine WL.guarded (nw := true) rfl rfl rfl rfl rfl rfl rfl (by first | exact trivial | (simp only [Holds]; omega) | (simp [Holds]; done) | (simp [Holds]; omega)) ?_)
  repeat (first
    | refine WC.seq ?_ | refine WC.region ?_ | refine WL.nil ?_ | with_reducible refine seqK.go ?_ | refine WC.block ?_ | refine WC.skip ?_ | refine WC.exit ?_ | refine WC.ret ?_
    | with_reducible refine seqK.exit ?_ | with_reducible refine seqK.ret ?_ | (with_reducible refine blockK.hit ?hb ?_; (case hb => rfl)) | (with_reducible refine blockK.miss ?hb ?_; (case hb => rfl)) | with_reducible refine blockK.normal ?_ | with_reducible refine blockK.ret ?_ | with_reducible refine loopK.exit ?_ | with_reducible refine loopK.ret ?_
    | refine WC.condT rfl ?_ | refine WC.condF rfl ?_
    | (refine WL.step rfl ?_; first | refine OP.decT (nw := true) rfl trivial (by first | omega | assumption) rfl rfl ?_ | refine OP.decF (nw := true) rfl trivial (by first | omega | assumption) rfl rfl ?_ | refine OP.decNT (nw := true) rfl trivial (by first | omega | assumption) rfl rfl ?_ | refine OP.decNF (nw := true) rfl trivial (by first | omega | assumption) rfl rfl ?_ | refine OP.pure (nw := true) rfl (by first | exact trivial | (simp only [Holds]; omega) | (simp [Holds]; done) | (simp [Holds]; omega)) rfl rfl ?_ | refine OP.pure (nw := false) rfl (by first | exact trivial | (simp only [Holds]; omega) | (simp [Holds]; done) | (simp [Holds]; omega)) rfl rfl ?_ | refine OP.pickT rfl rfl rfl rfl rfl ?_ | refine OP.pickF rfl rfl rfl rfl rfl ?_ | refine OP.loadN rfl rfl rfl rfl (by repeat (first | exact HasNth.here rfl | apply HasNth.there)) rfl rfl ?_ | refine OP.loadB rfl rfl rfl rfl rfl (by repeat (first | exact HasCut.here rfl | apply HasCut.there)) rfl rfl ?_ | refine OP.store rfl rfl rfl rfl rfl rfl rfl (by repeat (first | exact UpdM.here rfl | apply UpdM.there)) rfl ?_ | refine OP.buildT rfl rfl rfl rfl ?_ | refine OP.capS rfl rfl rfl rfl rfl rfl ?_)
    | (refine WL.guardT rfl rfl rfl rfl ?_; first | refine OP.decT (nw := true) rfl trivial (by first | omega | assumption) rfl rfl ?_ | refine OP.decF (nw := true) rfl trivial (by first | omega | assumption) rfl rfl ?_ | refine OP.decNT (nw := true) rfl trivial (by first | omega | assumption) rfl rfl ?_ | refine OP.decNF (nw := true) rfl trivial (by first | omega | assumption) rfl rfl ?_ | refine OP.pickT rfl rfl rfl rfl rfl ?_ | refine OP.pickF rfl rfl rfl rfl rfl ?_ | refine OP.pure (nw := true) rfl (by first | exact trivial | (simp only [Holds]; omega) | (simp [Holds]; done) | (simp [Holds]; omega)) rfl rfl ?_ | refine OP.pure (nw := false) rfl trivial rfl rfl ?_ | refine OP.loadN rfl rfl rfl rfl (by repeat (first | exact HasNth.here rfl | apply HasNth.there)) rfl rfl ?_ | refine OP.loadB rfl rfl rfl rfl rfl (by repeat (first | exact HasCut.here rfl | apply HasCut.there)) rfl rfl ?_ | refine OP.buildT rfl rfl rfl rfl ?_)
    | refine WL.guardF rfl rfl rfl rfl rfl rfl ?_ | refine WL.guardU rfl rfl rfl rfl rfl rfl ?_ | refine WL.guarded (nw := true) rfl rfl rfl rfl rfl rfl rfl (by first | exact trivial | (simp only [Holds]; omega) | (simp [Holds]; done) | (simp [Holds]; omega)) ?_)
  exact hh.h) : P := s ⟨h⟩
theorem NW {P : Prop} {Q : Nat → Prop} (h : ∀ b, Q b) (s : Hd (∀ b, Q b) → P := by
  intro hh
  refine WL.step rfl ?_
  first | exact OP.alloc rfl rfl rfl rfl rfl hh.h | exact OP.box rfl rfl rfl rfl rfl hh.h | exact OP.sliceLit rfl rfl rfl rfl rfl rfl rfl rfl hh.h) : P := s ⟨h⟩
section
variable {G : Ctx} {N : Nat} {env : Env} {L S : List Assn} {k : Kont} {n : Nat} {fuel : Nat} {listed : Array Bool} {l : List Oper} {o : Oper} {hd : Bool}
def VW (_ : Nat) (Q P : Prop) : Prop := Hd Q → P
theorem VW.q {i d : Nat} {v : Value} (hi : l.toArray[i]? = some o) (hg : o.guard = none) (hs : Region.noSelect l.toArray = true) (hf : Region.free .any l.toArray listed i = true) (hr : (Region.ready .any l.toArray listed).contains i = true)
    (hk : ∀ c env L, ¬ k (.panic c) env L) (hin : (Nat.blt i n && tailI l.toArray n i) = true) (hq : Quiet G N env S o v) (hdst : o.dst = some d) (hN : Nat.blt d N = true) :
    VW i (WH G N l.toArray n S true fuel (listed.setIfInBounds i true) ((d, .val v) :: env) L k) (WH G N l.toArray n S true (fuel + 1) listed env L k) := fun h => WH.q i hi hg hs hf hr hk hin hq hdst hN h.h
theorem VW.gT {i j jt d : Nat} {want : Bool} {oj : Oper} {v : Value} (hi : l.toArray[i]? = some o) (hg : o.guard = some (j, want)) (hj : l.toArray[j]? = some oj) (hjt : oj.dst = some jt) (hw : gdOf env jt want = some true)
    (hs : Region.noSelect l.toArray = true) (hf : Region.free .any l.toArray listed i = true) (hr : (Region.ready .any l.toArray listed).contains i = true)
    (hk : ∀ c env L, ¬ k (.panic c) env L) (hin : (Nat.blt i n && tailI l.toArray n i) = true) (hq : Quiet G N env S o v) (hdst : o.dst = some d) (hN : Nat.blt d N = true) :
    VW i (WH G N l.toArray n S true fuel (listed.setIfInBounds i true) ((d, .val v) :: env) L k) (WH G N l.toArray n S true (fuel + 1) listed env L k) := fun h => WH.gT i hi hg hj hjt hw hs hf hr hk hin hq hdst hN h.h
theorem VW.gF {i j jt d : Nat} {want : Bool} {oj : Oper} (hi : l.toArray[i]? = some o) (hg : o.guard = some (j, want)) (hj : l.toArray[j]? = some oj) (hjt : oj.dst = some jt) (hw : gdNo env jt want = true)
    (hs : Region.noSelect l.toArray = true) (hf : Region.free .any l.toArray listed i = true) (hr : (Region.ready .any l.toArray listed).contains i = true)
    (hk : ∀ c env L, ¬ k (.panic c) env L) (hin : (Nat.blt i n && tailI l.toArray n i) = true) (hdst : o.dst = some d) (hN : Nat.blt d N = true) :
    VW i (WH G N l.toArray n S true fuel (listed.setIfInBounds i true) ((d, .val undef) :: env) L k) (WH G N l.toArray n S true (fuel + 1) listed env L k) := fun h => WH.gF i hi hg hj hjt hw hs hf hr hk hin hdst hN h.h
theorem sat_nil (w : World) : Sat [] w := trivial
/-- what reads no memory: it may come whenever it likes -/
theorem VW.q0 {i d : Nat} {v : Value} (hi : l.toArray[i]? = some o) (hg : o.guard = none) (hs : Region.noSelect l.toArray = true) (hf : Region.free .any l.toArray listed i = true) (hr : (Region.ready .any l.toArray listed).contains i = true)
    (hk : ∀ c env L, ¬ k (.panic c) env L) (hH : (!hd || Nat.blt i n || phB listed n) = true) (hq : Quiet G N env [] o v) (hdst : o.dst = some d) (hN : Nat.blt d N = true) :
    VW i (WH G N l.toArray n S hd fuel (listed.setIfInBounds i true) ((d, .val v) :: env) L k) (WH G N l.toArray n S hd (fuel + 1) listed env L k) := fun h => .mk fun a w ha hsat hS hcl => by
  have hri : i ∈ Region.ready .any l.toArray listed := by simpa using hr
  refine wpB_pure (R := fun _ => True) hH hi (Region.noSelect_spec hs) (fun c a w => noPanic hk c a w _ _) (fun _ => trivial) fuel a w hcl (Region.free_spec hi hf) hri
    (.inl ⟨by simp [Region.wanted, hg], fun w _ => hq.run a w ha (sat_nil w)⟩) hS ?_
  rw [hdst]; exact h.h.go _ w (ha.put hN v) hsat hS (hcl.set hri)
theorem VW.gT0 {i j jt d : Nat} {want : Bool} {oj : Oper} {v : Value} (hi : l.toArray[i]? = some o) (hg : o.guard = some (j, want)) (hj : l.toArray[j]? = some oj) (hjt : oj.dst = some jt) (hw : gdOf env jt want = some true)
    (hs : Region.noSelect l.toArray = true) (hf : Region.free .any l.toArray listed i = true) (hr : (Region.ready .any l.toArray listed).contains i = true)
    (hk : ∀ c env L, ¬ k (.panic c) env L) (hH : (!hd || Nat.blt i n || phB listed n) = true) (hq : Quiet G N env [] o v) (hdst : o.dst = some d) (hN : Nat.blt d N = true) :
    VW i (WH G N l.toArray n S hd fuel (listed.setIfInBounds i true) ((d, .val v) :: env) L k) (WH G N l.toArray n S hd (fuel + 1) listed env L k) := fun h => .mk fun a w ha hsat hS hcl => by
  have hri : i ∈ Region.ready .any l.toArray listed := by simpa using hr
  have hw := gdOf_ok (ops := l.toArray) ha hw hj hjt hg
  refine wpB_pure (R := fun _ => True) hH hi (Region.noSelect_spec hs) (fun c a w => noPanic hk c a w _ _) (fun _ => trivial) fuel a w hcl (Region.free_spec hi hf) hri
    (.inl ⟨hw, fun w _ => hq.run a w ha (sat_nil w)⟩) hS ?_
  rw [hdst]; exact h.h.go _ w (ha.put hN v) hsat hS (hcl.set hri)
theorem VW.gF0 {i j jt d : Nat} {want : Bool} {oj : Oper} (hi : l.toArray[i]? = some o) (hg : o.guard = some (j, want)) (hj : l.toArray[j]? = some oj) (hjt : oj.dst = some jt) (hw : gdNo env jt want = true)
    (hs : Region.noSelect l.toArray = true) (hf : Region.free .any l.toArray listed i = true) (hr : (Region.ready .any l.toArray listed).contains i = true)
    (hk : ∀ c env L, ¬ k (.panic c) env L) (hH : (!hd || Nat.blt i n || phB listed n) = true) (hdst : o.dst = some d) (hN : Nat.blt d N = true) :
    VW i (WH G N l.toArray n S hd fuel (listed.setIfInBounds i true) ((d, .val undef) :: env) L k) (WH G N l.toArray n S hd (fuel + 1) listed env L k) := fun h => .mk fun a w ha hsat hS hcl => by
  have hri : i ∈ Region.ready .any l.toArray listed := by simpa using hr
  have hw := gdNo_ok (ops := l.toArray) ha hw hj hjt hg
  refine wpB_pure (R := fun _ => True) (v := undef) hH hi (Region.noSelect_spec hs) (fun c a w => noPanic hk c a w _ _) (fun _ => trivial) fuel a w hcl (Region.free_spec hi hf) hri
    (.inr ⟨hw, rfl⟩) hS ?_
  rw [hdst]; exact h.h.go _ w (ha.put hN _) hsat hS (hcl.set hri)
theorem VW.pure {i d : Nat} {nw : Bool} {c : Option Prop} {v : Value} (hi : l.toArray[i]? = some o) (hg : o.guard = none) (hs : Region.noSelect l.toArray = true) (hf : Region.free .any l.toArray listed i = true) (hr : (Region.ready .any l.toArray listed).contains i = true)
    (hk : ∀ c env L, ¬ k (.panic c) env L) (hH : (!hd || Nat.blt i n || phB listed n) = true) (he : ev G.T nw none env o.op = some (c, v)) (hc : Holds c) (hdst : o.dst = some d) (hN : Nat.blt d N = true) :
    VW i (WH G N l.toArray n S hd fuel (listed.setIfInBounds i true) ((d, .val v) :: env) L k) (WH G N l.toArray n S hd (fuel + 1) listed env L k) := fun h => WH.pure i hi hg hs hf hr hk hH he hc hdst hN h.h

theorem VV (i : Nat) {P Q : Prop} (h : Q) (s : VW i Q P := by first | exact VW.q rfl rfl (by kernel_rfl) (by kernel_rfl) (by kernel_rfl) (fun _ _ _ h => h) (by kernel_rfl) (Quiet.pickT rfl rfl rfl) rfl rfl | exact VW.q rfl rfl (by kernel_rfl) (by kernel_rfl) (by kernel_rfl) (fun _ _ _ h => h) (by kernel_rfl) (Quiet.pickF rfl rfl rfl) rfl rfl | exact VW.q rfl rfl (by kernel_rfl) (by kernel_rfl) (by kernel_rfl) (fun _ _ _ h => h) (by kernel_rfl) (Quiet.pure (nw := true) rfl (by first | exact trivial | (simp only [Holds]; omega) | (simp [Holds]; done) | (simp [Holds]; omega))) rfl rfl | exact VW.q rfl rfl (by kernel_rfl) (by kernel_rfl) (by kernel_rfl) (fun _ _ _ h => h) (by kernel_rfl) (Quiet.pure (nw := false) rfl (by first | exact trivial | (simp only [Holds]; omega) | (simp [Holds]; done) | (simp [Holds]; omega))) rfl rfl | exact VW.q rfl rfl (by kernel_rfl) (by kernel_rfl) (by kernel_rfl) (fun _ _ _ h => h) (by kernel_rfl) (Quiet.load rfl rfl rfl (.inl ⟨rfl, HasNth.ent (by repeat (first | exact HasNth.here rfl | apply HasNth.there))⟩)) rfl rfl | exact VW.q rfl rfl (by kernel_rfl) (by kernel_rfl) (by kernel_rfl) (fun _ _ _ h => h) (by kernel_rfl) (Quiet.load rfl rfl rfl (loads_cut rfl rfl (by repeat (first | exact HasCut.here rfl | apply HasCut.there)))) rfl rfl | exact VW.gT rfl rfl rfl rfl rfl (by kernel_rfl) (by kernel_rfl) (by kernel_rfl) (fun _ _ _ h => h) (by kernel_rfl) (Quiet.pickT rfl rfl rfl) rfl rfl | exact VW.gT rfl rfl rfl rfl rfl (by kernel_rfl) (by kernel_rfl) (by kernel_rfl) (fun _ _ _ h => h) (by kernel_rfl) (Quiet.pickF rfl rfl rfl) rfl rfl | exact VW.gT rfl rfl rfl rfl rfl (by kernel_rfl) (by kernel_rfl) (by kernel_rfl) (fun _ _ _ h => h) (by kernel_rfl) (Quiet.pure (nw := true) rfl (by first | exact trivial | (simp only [Holds]; omega) | (simp [Holds]; done) | (simp [Holds]; omega))) rfl rfl | exact VW.gT rfl rfl rfl rfl rfl (by kernel_rfl) (by kernel_rfl) (by kernel_rfl) (fun _ _ _ h => h) (by kernel_rfl) (Quiet.pure (nw := false) rfl (by first | exact trivial | (simp only [Holds]; omega) | (simp [Holds]; done) | (simp [Holds]; omega))) rfl rfl | exact VW.gT rfl rfl rfl rfl rfl (by kernel_rfl) (by kernel_rfl) (by kernel_rfl) (fun _ _ _ h => h) (by kernel_rfl) (Quiet.load rfl rfl rfl (.inl ⟨rfl, HasNth.ent (by repeat (first | exact HasNth.here rfl | apply HasNth.there))⟩)) rfl rfl | exact VW.gT rfl rfl rfl rfl rfl (by kernel_rfl) (by kernel_rfl) (by kernel_rfl) (fun _ _ _ h => h) (by kernel_rfl) (Quiet.load rfl rfl rfl (loads_cut rfl rfl (by repeat (first | exact HasCut.here rfl | apply HasCut.there)))) rfl rfl | exact VW.gF rfl rfl rfl rfl rfl (by kernel_rfl) (by kernel_rfl) (by kernel_rfl) (fun _ _ _ h => h) (by kernel_rfl) rfl rfl) : P := s ⟨h⟩
theorem WP (i : Nat) {P Q : Prop} (h : Q) (s : VW i Q P := by first | exact VW.q0 rfl rfl (by kernel_rfl) (by kernel_rfl) (by kernel_rfl) (fun _ _ _ h => h) (by kernel_rfl) (Quiet.pickT rfl rfl rfl) rfl rfl | exact VW.q0 rfl rfl (by kernel_rfl) (by kernel_rfl) (by kernel_rfl) (fun _ _ _ h => h) (by kernel_rfl) (Quiet.pickF rfl rfl rfl) rfl rfl | exact VW.q0 rfl rfl (by kernel_rfl) (by kernel_rfl) (by kernel_rfl) (fun _ _ _ h => h) (by kernel_rfl) (Quiet.pure (nw := true) rfl (by first | exact trivial | (simp only [Holds]; omega) | (simp [Holds]; done) | (simp [Holds]; omega))) rfl rfl | exact VW.q0 rfl rfl (by kernel_rfl) (by kernel_rfl) (by kernel_rfl) (fun _ _ _ h => h) (by kernel_rfl) (Quiet.pure (nw := false) rfl (by first | exact trivial | (simp only [Holds]; omega) | (simp [Holds]; done) | (simp [Holds]; omega))) rfl rfl | exact VW.gT0 rfl rfl rfl rfl rfl (by kernel_rfl) (by kernel_rfl) (by kernel_rfl) (fun _ _ _ h => h) (by kernel_rfl) (Quiet.pickT rfl rfl rfl) rfl rfl | exact VW.gT0 rfl rfl rfl rfl rfl (by kernel_rfl) (by kernel_rfl) (by kernel_rfl) (fun _ _ _ h => h) (by kernel_rfl) (Quiet.pickF rfl rfl rfl) rfl rfl | exact VW.gT0 rfl rfl rfl rfl rfl (by kernel_rfl) (by kernel_rfl) (by kernel_rfl) (fun _ _ _ h => h) (by kernel_rfl) (Quiet.pure (nw := true) rfl (by first | exact trivial | (simp only [Holds]; omega) | (simp [Holds]; done) | (simp [Holds]; omega))) rfl rfl | exact VW.gT0 rfl rfl rfl rfl rfl (by kernel_rfl) (by kernel_rfl) (by kernel_rfl) (fun _ _ _ h => h) (by kernel_rfl) (Quiet.pure (nw := false) rfl (by first | exact trivial | (simp only [Holds]; omega) | (simp [Holds]; done) | (simp [Holds]; omega))) rfl rfl | exact VW.gF0 rfl rfl rfl rfl rfl (by kernel_rfl) (by kernel_rfl) (by kernel_rfl) (fun _ _ _ h => h) (by kernel_rfl) rfl rfl) : P := s ⟨h⟩
theorem VF (i : Nat) {P Q : Prop} (h : Q) (s : VW i Q P := by exact VW.gF0 rfl rfl rfl rfl rfl (by kernel_rfl) (by kernel_rfl) (by kernel_rfl) (fun _ _ _ h => h) (by kernel_rfl) rfl rfl) : P := s ⟨h⟩
theorem WW (i : Nat) {P Q : Prop} (h : Q) (s : VW i Q P := by first | exact VW.pure (nw := true) rfl rfl (by kernel_rfl) (by kernel_rfl) (by kernel_rfl) (fun _ _ _ h => h) (by kernel_rfl) rfl (by first | exact trivial | (simp only [Holds]; omega) | (simp [Holds]; done) | (simp [Holds]; omega)) rfl rfl | exact VW.pure (nw := false) rfl rfl (by kernel_rfl) (by kernel_rfl) (by kernel_rfl) (fun _ _ _ h => h) (by kernel_rfl) rfl (by first | exact trivial | (simp only [Holds]; omega) | (simp [Holds]; done) | (simp [Holds]; omega)) rfl rfl | exact VW.q rfl rfl (by kernel_rfl) (by kernel_rfl) (by kernel_rfl) (fun _ _ _ h => h) (by kernel_rfl) (Quiet.load rfl rfl rfl (.inl ⟨rfl, HasNth.ent (by repeat (first | exact HasNth.here rfl | apply HasNth.there))⟩)) rfl rfl | exact VW.q rfl rfl (by kernel_rfl) (by kernel_rfl) (by kernel_rfl) (fun _ _ _ h => h) (by kernel_rfl) (Quiet.load rfl rfl rfl (loads_cut rfl rfl (by repeat (first | exact HasCut.here rfl | apply HasCut.there)))) rfl rfl) : P := s ⟨h⟩
theorem VQ (i : Nat) {d : Nat} {v : Value} (hi : l.toArray[i]? = some o) (hq : Quiet G N env S o v) (h : WH G N l.toArray n S true fuel (listed.setIfInBounds i true) ((d, .val v) :: env) L k)
    (hg : o.guard = none := by rfl) (hs : Region.noSelect l.toArray = true := by kernel_rfl) (hf : Region.free .any l.toArray listed i = true := by kernel_rfl) (hr : (Region.ready .any l.toArray listed).contains i = true := by kernel_rfl)
    (hk : ∀ c env L, ¬ k (.panic c) env L := by exact (fun _ _ _ h => h)) (hin : (Nat.blt i n && tailI l.toArray n i) = true := by kernel_rfl) (hdst : o.dst = some d := by rfl) (hN : Nat.blt d N = true := by rfl) : WH G N l.toArray n S true (fuel + 1) listed env L k := WH.q i hi hg hs hf hr hk hin hq hdst hN h
theorem VG (i : Nat) {j jt d : Nat} {want : Bool} {oj : Oper} {v : Value} (hi : l.toArray[i]? = some o) (hq : Quiet G N env S o v) (h : WH G N l.toArray n S true fuel (listed.setIfInBounds i true) ((d, .val v) :: env) L k)
    (hg : o.guard = some (j, want) := by rfl) (hj : l.toArray[j]? = some oj := by rfl) (hjt : oj.dst = some jt := by rfl) (hw : gdOf env jt want = some true := by rfl)
    (hs : Region.noSelect l.toArray = true := by kernel_rfl) (hf : Region.free .any l.toArray listed i = true := by kernel_rfl) (hr : (Region.ready .any l.toArray listed).contains i = true := by kernel_rfl)
    (hk : ∀ c env L, ¬ k (.panic c) env L := by exact (fun _ _ _ h => h)) (hin : (Nat.blt i n && tailI l.toArray n i) = true := by kernel_rfl) (hdst : o.dst = some d := by rfl) (hN : Nat.blt d N = true := by rfl) : WH G N l.toArray n S true (fuel + 1) listed env L k := WH.gT i hi hg hj hjt hw hs hf hr hk hin hq hdst hN h
theorem VL (i : Nat) (v : Value) {d : Nat} {t : TypeId} {x : Operand} {b off : Nat} {ti : TI} (hi : l.toArray[i]? = some o) (ho : o.op = .load t x) (hx : rd none env x = some (none, .pointer (some ⟨b, off, none⟩))) (hti : G.T.find t = some ti) (hv : Loads S ti b off v)
    (h : WH G N l.toArray n S true fuel (listed.setIfInBounds i true) ((d, .val v) :: env) L k)
    (hg : o.guard = none := by rfl) (hs : Region.noSelect l.toArray = true := by kernel_rfl) (hf : Region.free .any l.toArray listed i = true := by kernel_rfl) (hr : (Region.ready .any l.toArray listed).contains i = true := by kernel_rfl)
    (hk : ∀ c env L, ¬ k (.panic c) env L := by exact (fun _ _ _ h => h)) (hin : (Nat.blt i n && tailI l.toArray n i) = true := by kernel_rfl) (hdst : o.dst = some d := by rfl) (hN : Nat.blt d N = true := by rfl) : WH G N l.toArray n S true (fuel + 1) listed env L k := WH.load i hi hg hs hf hr hk hin ho hx hti hv hdst hN h
theorem RD {id : Nat} (n m : Nat) (S : List Assn) (h : WH G N l.toArray n S true m (Array.replicate m false) env L k) (hm : l.length = m := by rfl) (hS : Imp L S := by first | exact Imp.refl _ | exact (Imp.sub (by repeat (first | exact Picks.nil _ | apply Picks.cons | exact Pick.here _ _ | apply Pick.there)))) : WC G N (.region id l.toArray true) env L k := WC.regionE n m S hm hS h
theorem DN (h : k .normal env L) (hr : Region.ready .any l.toArray listed = [] := by kernel_rfl) : WH G N l.toArray n S hd fuel listed env L k := WH.done hr h
end
end Go.GL
/- A short word: the steps that store nothing. -/
namespace Go.GL
open Go
theorem GS {P Q : Prop} (h : Q) (s : Hd Q → P := by
  intro hh
  (first
    | refine WC.seq ?_ | refine WC.region ?_ | refine WL.nil ?_ | with_reducible refine seqK.go ?_ | refine WC.block ?_ | refine WC.skip ?_ | refine WC.exit ?_ | refine WC.ret ?_
    | with_reducible refine seqK.exit ?_ | with_reducible refine seqK.ret ?_ | (with_reducible refine blockK.hit ?hb ?_; (case hb => rfl)) | (with_reducible refine blockK.miss ?hb ?_; (case hb => rfl)) | with_reducible refine blockK.normal ?_ | with_reducible refine blockK.ret ?_ | with_reducible refine loopK.exit ?_ | with_reducible refine loopK.ret ?_
    | refine WC.condT rfl ?_ | refine WC.condF rfl ?_
    | (refine WL.step rfl ?_; first | refine OP.decT (nw := true) rfl trivial (by first | omega | assumption) rfl rfl ?_ | refine OP.decF (nw := true) rfl trivial (by first | omega | assumption) rfl rfl ?_ | refine OP.decNT (nw := true) rfl trivial (by first | omega | assumption) rfl rfl ?_ | refine OP.decNF (nw := true) rfl trivial (by first | omega | assumption) rfl rfl ?_ | refine OP.pure (nw := true) rfl (by first | exact trivial | (simp only [Holds]; omega) | (simp [Holds]; done) | (simp [Holds]; omega)) rfl rfl ?_ | refine OP.pure (nw := false) rfl (by first | exact trivial | (simp only [Holds]; omega) | (simp [Holds]; done) | (simp [Holds]; omega)) rfl rfl ?_ | refine OP.pickT rfl rfl rfl rfl rfl ?_ | refine OP.pickF rfl rfl rfl rfl rfl ?_ | refine OP.loadN rfl rfl rfl rfl (by repeat (first | exact HasNth.here rfl | apply HasNth.there)) rfl rfl ?_ | refine OP.loadB rfl rfl rfl rfl rfl (by repeat (first | exact HasCut.here rfl | apply HasCut.there)) rfl rfl ?_ | refine OP.buildT rfl rfl rfl rfl ?_ | refine OP.capS rfl rfl rfl rfl rfl rfl ?_)
    | (refine WL.guardT rfl rfl rfl rfl ?_; first | refine OP.decT (nw := true) rfl trivial (by first | omega | assumption) rfl rfl ?_ | refine OP.decF (nw := true) rfl trivial (by first | omega | assumption) rfl rfl ?_ | refine OP.decNT (nw := true) rfl trivial (by first | omega | assumption) rfl rfl ?_ | refine OP.decNF (nw := true) rfl trivial (by first | omega | assumption) rfl rfl ?_ | refine OP.pickT rfl rfl rfl rfl rfl ?_ | refine OP.pickF rfl rfl rfl rfl rfl ?_ | refine OP.pure (nw := true) rfl (by first | exact trivial | (simp only [Holds]; omega) | (simp [Holds]; done) | (simp [Holds]; omega)) rfl rfl ?_ | refine OP.pure (nw := false) rfl trivial rfl rfl ?_ | refine OP.loadN rfl rfl rfl rfl (by repeat (first | exact HasNth.here rfl | apply HasNth.there)) rfl rfl ?_ | refine OP.loadB rfl rfl rfl rfl rfl (by repeat (first | exact HasCut.here rfl | apply HasCut.there)) rfl rfl ?_ | refine OP.buildT rfl rfl rfl rfl ?_)
    | refine WL.guardF rfl rfl rfl rfl rfl rfl ?_ | refine WL.guardU rfl rfl rfl rfl rfl rfl ?_ | refine WL.guarded (nw := true) rfl rfl rfl rfl rfl rfl rfl (by first | exact trivial | (simp only [Holds]; omega) | (simp [Holds]; done) | (simp [Holds]; omega)) ?_)
  repeat (first
    | refine WC.seq ?_ | refine WC.region ?_ | refine WL.nil ?_ | with_reducible refine seqK.go ?_ | refine WC.block ?_ | refine WC.skip ?_ | refine WC.exit ?_ | refine WC.ret ?_
    | with_reducible refine seqK.exit ?_ | with_reducible refine seqK.ret ?_ | (with_reducible refine blockK.hit ?hb ?_; (case hb => rfl)) | (with_reducible refine blockK.miss ?hb ?_; (case hb => rfl)) | with_reducible refine blockK.normal ?_ | with_reducible refine blockK.ret ?_ | with_reducible refine loopK.exit ?_ | with_reducible refine loopK.ret ?_
    | refine WC.condT rfl ?_ | refine WC.condF rfl ?_
    | (refine WL.step rfl ?_; first | refine OP.decT (nw := true) rfl trivial (by first | omega | assumption) rfl rfl ?_ | refine OP.decF (nw := true) rfl trivial (by first | omega | assumption) rfl rfl ?_ | refine OP.decNT (nw := true) rfl trivial (by first | omega | assumption) rfl rfl ?_ | refine OP.decNF (nw := true) rfl trivial (by first | omega | assumption) rfl rfl ?_ | refine OP.pure (nw := true) rfl (by first | exact trivial | (simp only [Holds]; omega) | (simp [Holds]; done) | (simp [Holds]; omega)) rfl rfl ?_ | refine OP.pure (nw := false) rfl (by first | exact trivial | (simp only [Holds]; omega) | (simp [Holds]; done) | (simp [Holds]; omega)) rfl rfl ?_ | refine OP.pickT rfl rfl rfl rfl rfl ?_ | refine OP.pickF rfl rfl rfl rfl rfl ?_ | refine OP.loadN rfl rfl rfl rfl (by repeat (first | exact HasNth.here rfl | apply HasNth.there)) rfl rfl ?_ | refine OP.loadB rfl rfl rfl rfl rfl (by repeat (first | exact HasCut.here rfl | apply HasCut.there)) rfl rfl ?_ | refine OP.buildT rfl rfl rfl rfl ?_ | refine OP.capS rfl rfl rfl rfl rfl rfl ?_)
    | (refine WL.guardT rfl rfl rfl rfl ?_; first | refine OP.decT (nw := true) rfl trivial (by first | omega | assumption) rfl rfl ?_ | refine OP.decF (nw := true) rfl trivial (by first | omega | assumption) rfl rfl ?_ | refine OP.decNT (nw := true) rfl trivial (by first | omega | assumption) rfl rfl ?_ | refine OP.decNF (nw := true) rfl trivial (by first | omega | assumption) rfl rfl ?_ | refine OP.pickT rfl rfl rfl rfl rfl ?_ | refine OP.pickF rfl rfl rfl rfl rfl ?_ | refine OP.pure (nw := true) rfl (by first | exact trivial | (simp only [Holds]; omega) | (simp [Holds]; done) | (simp [Holds]; omega)) rfl rfl ?_ | refine OP.pure (nw := false) rfl trivial rfl rfl ?_ | refine OP.loadN rfl rfl rfl rfl (by repeat (first | exact HasNth.here rfl | apply HasNth.there)) rfl rfl ?_ | refine OP.loadB rfl rfl rfl rfl rfl (by repeat (first | exact HasCut.here rfl | apply HasCut.there)) rfl rfl ?_ | refine OP.buildT rfl rfl rfl rfl ?_)
    | refine WL.guardF rfl rfl rfl rfl rfl rfl ?_ | refine WL.guardU rfl rfl rfl rfl rfl rfl ?_ | refine WL.guarded (nw := true) rfl rfl rfl rfl rfl rfl rfl (by first | exact trivial | (simp only [Holds]; omega) | (simp [Holds]; done) | (simp [Holds]; omega)) ?_)
  exact hh.h) : P := s ⟨h⟩
end Go.GL
/- Maps whose keys are integers: assertions, and the operations that make, read, change them. -/
namespace Go.GL
open Go Go.MapKept
/-- an object that is no block of cells -/
def objA (r : Nat) (o : Obj) : Assn := fun h => h (r + 1) = some (.obj o)
theorem up_objA (r : Nat) (o : Obj) : Up (objA r o) := fun _ _ l e => l _ _ e
theorem Sat.newObj {L : List Assn} {w : World} (s : Sat L w) (o : Obj) : Sat (objA w.heap.size o :: L) { w with heap := w.heap.push o } := by
  refine ⟨fun b => if b = w.heap.size + 1 then some (.obj o) else none, hpOf w, ?_, ?_, by simp [objA], s⟩
  · intro b
    by_cases e : b = w.heap.size + 1
    · right; subst e; simp [hpOf]
    · left; simp [e]
  · funext b
    unfold Hp.join
    cases b with
    | zero => simp [hpOf]
    | succ b =>
      unfold hpOf
      by_cases e : b = w.heap.size
      · subst e; simp
      · have : ¬ (b + 1 = w.heap.size + 1) := by omega
        simp only [this, if_false, Option.none_or]
        rw [Array.getElem?_push]
        simp [e]
theorem Sat.obj {L : List Assn} {w : World} {r : Nat} {o : Obj} (s : Sat (objA r o :: L) w) : w.heap[r]? = some o := by
  obtain ⟨h1, h2, d, e, a, _⟩ := s
  have : hpOf w (r + 1) = some (.obj o) := by rw [e]; unfold objA at a; simp [Hp.join, a]
  exact hpOf_obj.1 this
theorem Sat.setObj {L : List Assn} {w : World} {r : Nat} {o : Obj} (s : Sat (objA r o :: L) w) (o' : Obj) : Sat (objA r o' :: L) { w with heap := w.heap.setIfInBounds r o' } := by
  have hb := s.obj
  have hlt : r < w.heap.size := (Array.getElem?_eq_some_iff.1 hb).1
  obtain ⟨h1, h2, d, e, a, s⟩ := s
  unfold objA at a
  have h2b : h2 (r + 1) = none := by
    rcases d (r + 1) with x | x
    · rw [x] at a; cases a
    · exact x
  refine ⟨fun x => if x = r + 1 then some (.obj o') else h1 x, h2, ?_, ?_, by simp [objA], s⟩
  · intro x
    by_cases ex : x = r + 1
    · subst ex; exact .inr h2b
    · simp only [ex, if_false]; exact d x
  · funext x
    have he : hpOf w x = Hp.join h1 h2 x := by rw [e]
    cases x with
    | zero => simpa [Hp.join, hpOf] using he
    | succ x =>
      by_cases ex : x = r
      · subst ex
        simp [Hp.join, hpOf, hlt]
      · have hx : ¬ (x + 1 = r + 1) := by omega
        simp only [Hp.join, hx, if_false]
        simp only [Hp.join] at he
        rw [← he]
        simp [hpOf, Ne.symm ex]
/-- a map's entries: what they say -/
structure MapEs (m : Int → Option Value) (es : Array MapEntry) (clock : Nat) : Prop where
  st : Stamped es clock
  keys : ∀ x ∈ es.toList, IsKey (.int .i64) x.key
  says : ∀ k v, m k = some v ↔ ∃ x ∈ es.toList, x.key = .int .i64 k ∧ x.val = v
def mapA (r : Nat) (m : Int → Option Value) : Assn := fun h => ∃ es clock, MapEs m es clock ∧ objA r (.map es clock) h
theorem up_mapA (r : Nat) (m : Int → Option Value) : Up (mapA r m) := fun _ _ l ⟨es, c, a, b⟩ => ⟨es, c, a, up_objA _ _ _ _ l b⟩
def updM (m : Int → Option Value) (k : Int) (v : Value) : Int → Option Value := fun x => if x = k then some v else m x
theorem MapEs.nil : MapEs (fun _ => none) #[] 0 := ⟨stamped_empty 0, by simp, by simp⟩
theorem MapEs.find {m : Int → Option Value} {es : Array MapEntry} {clock : Nat} (h : MapEs m es clock) (k : Int) :
    (m k = none ∧ Instr.findNow (.int .i64) (.int .i64 k) es.toList 0 = some none ∧ ∀ x ∈ es.toList, x.key ≠ .int .i64 k) ∨
    ∃ j e, m k = some e.val ∧ Instr.findNow (.int .i64) (.int .i64 k) es.toList 0 = some (some (j, e.val)) ∧ es.toList[j]? = some e ∧ e.key = .int .i64 k := by
  rcases findNow_spec (d := .int .i64) (k := .int .i64 k) rfl es.toList 0 h.keys with ⟨h1, h2⟩ | ⟨j, e, h1, h2, h3⟩
  · refine .inl ⟨?_, h1, h2⟩
    cases hm : m k with
    | none => rfl
    | some v =>
      obtain ⟨x, hx, hk, _⟩ := (h.says k v).1 hm
      exact absurd hk (h2 x hx)
  · refine .inr ⟨j, e, (h.says k e.val).2 ⟨e, List.mem_of_getElem? h2, h3, rfl⟩, by rw [h1, Nat.zero_add], h2, h3⟩
theorem stamped_key {es : Array MapEntry} {clock : Nat} (h : Stamped es clock) {x y : MapEntry} (hx : x ∈ es.toList) (hy : y ∈ es.toList) (e : x.key = y.key) : x = y := by
  obtain ⟨_, _, h3⟩ := h
  obtain ⟨i, hi, rfl⟩ := List.getElem_of_mem hx
  obtain ⟨j, hj, rfl⟩ := List.getElem_of_mem hy
  have hij : i = j := by
    have := (List.getElem_inj (i := i) (j := j) (h₀ := by simpa using hi) (h₁ := by simpa using hj) h3).1 (by simpa using e)
    exact this
  subst hij
  rfl
/-- an entry is put -/
theorem MapEs.push {m : Int → Option Value} {es : Array MapEntry} {clock : Nat} (h : MapEs m es clock) {k : Int} (v : Value) (hk : ∀ x ∈ es.toList, x.key ≠ .int .i64 k) : MapEs (updM m k v) (es.push { key := .int .i64 k, val := v, born := clock }) (clock + 1) := by
  refine ⟨stamped_push h.st hk, ?_, ?_⟩
  · intro x hx
    simp only [Array.toList_push, List.mem_append, List.mem_singleton] at hx
    rcases hx with hx | rfl
    · exact h.keys x hx
    · rfl
  · intro a u
    simp only [Array.toList_push, List.mem_append, List.mem_singleton]
    unfold updM
    constructor
    · intro e
      split at e
      · rename_i ha
        subst ha
        cases e
        exact ⟨_, .inr rfl, rfl, rfl⟩
      · obtain ⟨x, hx, h1, h2⟩ := (h.says a u).1 e
        exact ⟨x, .inl hx, h1, h2⟩
    · rintro ⟨x, hx | rfl, h1, h2⟩
      · have hne : a ≠ k := fun e => hk x hx (by rw [h1, e])
        rw [if_neg hne]
        exact (h.says a u).2 ⟨x, hx, h1, h2⟩
      · simp only [Value.int.injEq, true_and] at h1
        subst h1
        rw [if_pos rfl]
        exact congrArg some h2
theorem MapEs.modify {m : Int → Option Value} {es : Array MapEntry} {clock : Nat} (h : MapEs m es clock) {k : Int} (v : Value) {j : Nat} {e : MapEntry} (hj : es.toList[j]? = some e) (hk : e.key = .int .i64 k) : MapEs (updM m k v) (es.modify j (fun e' => { e' with key := .int .i64 k, val := v })) clock := by
  have hj' : es[j]? = some e := by simpa using hj
  have hkf : ∀ e', es[j]? = some e' → ({ e' with key := .int .i64 k, val := v } : MapEntry).key = e'.key := fun e' he' => by rw [hj'] at he'; cases he'; exact hk.symm
  refine ⟨stamped_modify h.st _ _ (fun _ _ => rfl) (fun e' _ he' => hkf e' he'), isKey_modify h.keys _ _ hkf, ?_⟩
  have hget : ∀ i, (es.modify j (fun e' => { e' with key := .int .i64 k, val := v })).toList[i]? = if i = j then some { e with key := .int .i64 k, val := v } else es.toList[i]? := fun i => by
    simp only [Array.getElem?_toList, Array.getElem?_modify]
    by_cases hij : j = i
    · subst hij; simp [hj']
    · simp [hij, Ne.symm hij]
  intro a u
  unfold updM
  constructor
  · intro hu
    split at hu
    · rename_i ha
      subst ha
      cases hu
      exact ⟨{ e with key := .int .i64 a, val := v }, List.mem_of_getElem? (i := j) (by rw [hget, if_pos rfl]), rfl, rfl⟩
    · rename_i ha
      obtain ⟨x, hx, h1, h2⟩ := (h.says a u).1 hu
      obtain ⟨i, hi, rfl⟩ := List.getElem_of_mem hx
      have hij : i ≠ j := fun hij => by
        subst hij
        rw [List.getElem?_eq_getElem hi] at hj
        cases hj
        rw [hk] at h1
        simp only [Value.int.injEq, true_and] at h1
        exact ha h1.symm
      exact ⟨_, List.mem_of_getElem? (i := i) (by rw [hget, if_neg hij]; exact List.getElem?_eq_getElem hi), h1, h2⟩
  · rintro ⟨x, hx, h1, h2⟩
    obtain ⟨i, hi, rfl⟩ := List.getElem_of_mem hx
    have hgi := hget i
    rw [List.getElem?_eq_getElem hi] at hgi
    by_cases hij : i = j
    · rw [if_pos hij] at hgi
      simp only [Option.some.injEq] at hgi
      rw [hgi] at h1 h2
      simp only [Value.int.injEq, true_and] at h1
      rw [if_pos h1.symm]
      exact congrArg some h2
    · rw [if_neg hij] at hgi
      have hm := List.mem_of_getElem? hgi.symm
      by_cases ha : a = k
      · subst ha
        have := stamped_key h.st hm (List.mem_of_getElem? hj) (by rw [h1, hk])
        have h4 : i = j := by
          obtain ⟨_, _, h3⟩ := h.st
          have hi2 := (List.getElem?_eq_some_iff.1 hgi.symm).1
          have hj2 := (List.getElem?_eq_some_iff.1 hj).1
          have e1 := (List.getElem?_eq_some_iff.1 hgi.symm).2
          have e2 := (List.getElem?_eq_some_iff.1 hj).2
          exact (List.getElem_inj (i := i) (j := j) (h₀ := by simpa using hi2) (h₁ := by simpa using hj2) h3).1 (by simp only [List.getElem_map, e1, e2, this])
        exact absurd h4 hij
      · rw [if_neg ha]
        exact (h.says a u).2 ⟨_, hm, h1, h2⟩
section
variable {G : Ctx} {N : Nat} {env : Env} {L : List Assn} {o : Oper} {post : Env → List Assn → Prop} {d : Nat}
theorem OP.makeMap {t : TypeId} {ti : TI} (ho : o.op = .makeMap t none) (hd : o.dst = some d) (hN : Nat.blt d N = true) (_ : G.T.find t = some ti)
    (h : ∀ b, post ((d, .val (.map (some b))) :: env) (mapA b (fun _ => none) :: L)) : OP G N o env L post := .mk fun a w ha hs => by
  have hr : (execOp a.eval o).run G.P w = .ok (.value (.map (some w.heap.size))) { w with heap := w.heap.push (.map #[] 0) } := by
    rw [execOp, ho]
    simp [Instr.makeMap]
  unfold Oper.wp
  rw [hr]
  simp only [Oper.upon, hd]
  exact ⟨_, _, ha.put hN _, stars_head_mono (fun k hk => ⟨#[], 0, MapEs.nil, hk⟩) (hs.newObj _), h _⟩
theorem run_zeroV {P : Program} {t : Nat} {i : TI} (h : TIOk P t i) (w : World) : (zeroValue t).run P w = .ok (zeroOf i) w := run_zero h w
/-- m[k], of a map that is not nil -/
theorem OP.lookup {t kt e : TypeId} {x ix : Operand} {tm tk te : TI} {r : Nat} {k : Int} {m : Int → Option Value} {z : Value} (ho : o.op = .lookup t x ix false) (hx : rd none env x = some (none, .map (some r))) (hi : rd none env ix = some (none, .int .i64 k))
    (ht : G.T.find t = some tm) (hdm : tm.desc = .map kt e) (htk : G.T.find kt = some tk) (hdk : tk.desc = .int .i64) (hte : G.T.find e = some te) (hz : zeroOf te = z) (hm : Ent L (mapA r m)) (hd : o.dst = some d) (hN : Nat.blt d N = true)
    (h : post ((d, .val ((m k).getD z)) :: env) L) : OP G N o env L post := by
  subst hz
  refine .run (fun a w ha hs => ?_) hd hN h
  obtain ⟨es, clock, he, hb⟩ := hm _ hs
  have hb' : w.heap[r]? = some (.map es clock) := hpOf_obj.1 hb
  have u : G.P.underlying t = some (.map kt e) := hdm ▸ (Tab.find_ok G.ok ht).desc
  have uk : G.P.underlying kt = some (.int .i64) := hdk ▸ (Tab.find_ok G.ok htk).desc
  rw [execOp, ho]
  rcases he.find k with ⟨h1, h2, _⟩ | ⟨j, en, h1, h2, _, _⟩
  · rw [h1]
    simp [Instr.lookup, run_underlying u, rd_plain hx ha, rd_plain hi ha, MapKept.run_getObj_map hb', run_checkKey (k := .int .i64 k) uk rfl, run_findKey uk h2, run_zeroV (Tab.find_ok G.ok hte)]
  · rw [h1]
    simp [Instr.lookup, run_underlying u, rd_plain hx ha, rd_plain hi ha, MapKept.run_getObj_map hb', run_checkKey (k := .int .i64 k) uk rfl, run_findKey uk h2]
/-- m[k], of a nil map -/
theorem OP.lookupNil {t kt e : TypeId} {x ix : Operand} {tm tk te : TI} {k : Int} {z : Value} (ho : o.op = .lookup t x ix false) (hx : rd none env x = some (none, .map none)) (hi : rd none env ix = some (none, .int .i64 k))
    (ht : G.T.find t = some tm) (hdm : tm.desc = .map kt e) (htk : G.T.find kt = some tk) (hdk : tk.desc = .int .i64) (hte : G.T.find e = some te) (hz : zeroOf te = z) (hd : o.dst = some d) (hN : Nat.blt d N = true)
    (h : post ((d, .val z) :: env) L) : OP G N o env L post := by
  subst hz
  refine .run (fun a w ha hs => ?_) hd hN h
  have u : G.P.underlying t = some (.map kt e) := hdm ▸ (Tab.find_ok G.ok ht).desc
  have uk : G.P.underlying kt = some (.int .i64) := hdk ▸ (Tab.find_ok G.ok htk).desc
  have h2 : Instr.findNow (.int .i64) (.int .i64 k) (#[] : Array MapEntry).toList 0 = some none := rfl
  rw [execOp, ho]
  simp [Instr.lookup, run_underlying u, rd_plain hx ha, rd_plain hi ha, run_checkKey (k := .int .i64 k) uk rfl, run_findKey uk (show Instr.findNow (.int .i64) (.int .i64 k) [] 0 = some none from rfl), run_zeroV (Tab.find_ok G.ok hte)]
/-- m[k] = v -/
theorem OP.mapUpdate {t kt e : TypeId} {x ix y : Operand} {tm tk : TI} {r : Nat} {k : Int} {v : Value} {m : Int → Option Value} {M : List Assn} (ho : o.op = .mapUpdate t x ix y) (hx : rd none env x = some (none, .map (some r))) (hi : rd none env ix = some (none, .int .i64 k)) (hy : rd none env y = some (none, v))
    (ht : G.T.find t = some tm) (hdm : tm.desc = .map kt e) (htk : G.T.find kt = some tk) (hdk : tk.desc = .int .i64) (hm : Imp L (mapA r m :: M)) (hd : o.dst = none)
    (h : post env (mapA r (updM m k v) :: M)) : OP G N o env L post := .mk fun a w ha hs => by
  have hs2 := hm.sat hs
  obtain ⟨h1, h2, dj, e', ⟨es, clock, he, hb⟩, rest⟩ := hs2
  have hsO : Sat (objA r (.map es clock) :: M) w := ⟨h1, h2, dj, e', hb, rest⟩
  have hb' := hsO.obj
  have u : G.P.underlying t = some (.map kt e) := hdm ▸ (Tab.find_ok G.ok ht).desc
  have uk : G.P.underlying kt = some (.int .i64) := hdk ▸ (Tab.find_ok G.ok htk).desc
  rcases he.find k with ⟨_, g2, g3⟩ | ⟨j, en, _, g2, g3, g4⟩
  · have hr : (execOp a.eval o).run G.P w = .ok .skip { w with heap := w.heap.setIfInBounds r (.map (es.push { key := .int .i64 k, val := v, born := clock }) (clock + 1)) } := by
      rw [execOp, ho]
      simp [Instr.mapUpdate, run_underlying u, rd_plain hx ha, rd_plain hi ha, rd_plain hy ha, MapKept.run_getObj_map hb', run_checkKey (k := .int .i64 k) uk rfl, run_findKey uk g2, MapKept.run_setObj_map _ hb', Result.andThen]
    unfold Oper.wp
    rw [hr]
    simp only [Oper.upon, hd]
    exact ⟨env, _, ha, stars_head_mono (fun k' hk' => ⟨_, _, he.push v g3, hk'⟩) (hsO.setObj _), h⟩
  · have g3' : es[j]? = some en := by simpa using g3
    have hr : (execOp a.eval o).run G.P w = .ok .skip { w with heap := w.heap.setIfInBounds r (.map (es.modify j (fun e' => { e' with key := .int .i64 k, val := v })) clock) } := by
      rw [execOp, ho]
      simp [Instr.mapUpdate, run_underlying u, rd_plain hx ha, rd_plain hi ha, rd_plain hy ha, MapKept.run_getObj_map hb', run_checkKey (k := .int .i64 k) uk rfl, run_findKey uk g2, g3', g4, run_keyThatStays (d := .int .i64) (k := .int .i64 k) rfl, MapKept.run_setObj_map _ hb', Result.andThen]
    unfold Oper.wp
    rw [hr]
    simp only [Oper.upon, hd]
    exact ⟨env, _, ha, stars_head_mono (fun k' hk' => ⟨_, _, he.modify v g3 g4, hk'⟩) (hsO.setObj _), h⟩
end
end Go.GL
/- What a contract of the library's shelf gives: new memory beside what was there. -/
namespace Go.GL
open Go Go.RowKit
theorem Ext.ofBelow {w w' : World} (h : Below w.heap.size w w') : Ext w w' := fun b o e => by
  cases b with
  | zero =>
    rw [hpOf_ghost] at e ⊢
    rw [h.os, h.output]; exact e
  | succ b =>
    cases o with
    | ghost _ _ => simp [hpOf] at e
    | obj o =>
      rw [hpOf_obj] at e ⊢
      have hlt : b < w.heap.size := (Array.getElem?_eq_some_iff.1 e).1
      rw [h.block b hlt]; exact e
/-- something that lies beyond all that was there -/
theorem Sat.fresh {M : List Assn} {w w' : World} {A : Assn} (s : Sat M w) (x : Ext w w') {g : Nat} (hg : w.heap.size ≤ g) {o : Obj} (ho : w'.heap[g]? = some o) (hA : ∀ h : Hp, h (g + 1) = some (.obj o) → A h) : Sat (A :: M) w' := by
  have hnone : hpOf w (g + 1) = none := hpOf_none.2 (Array.getElem?_eq_none hg)
  refine ⟨fun b => if b = g + 1 then some (.obj o) else none, Hp.minus (hpOf w') (fun b => if b = g + 1 then some (.obj o) else none), Hp.disj_minus _ _, Hp.join_minus (fun b u e => ?_), hA _ (by simp), stars_mono (fun b u e => ?_) s⟩
  · by_cases hb : b = g + 1
    · subst hb
      simp only [if_pos] at e
      cases e
      exact hpOf_obj.2 ho
    · simp [hb] at e
  · by_cases hb : b = g + 1
    · subst hb; rw [hnone] at e; cases e
    · unfold Hp.minus
      simp [hb, x b u e]
/-- a new slice -/
theorem Sat.ofRow {M : List Assn} {w w' : World} {T n : Nat} {v : Value} {xs : List Value} (s : Sat M w) (hb : Below w.heap.size w w') (hr : w'.ownsRow w.heap.size T 1 v n xs) : ∃ a cap, v = .slice a n cap ∧ Sat (ownS a n cap T 1 xs :: M) w' := by
  obtain ⟨hl, ⟨rfl, rfl⟩ | ⟨g, cap, cur, rfl, hg, ho, hle, _, hsz, htk⟩⟩ := hr
  · refine ⟨none, 0, rfl, ?_⟩
    have : xs = [] := List.eq_nil_of_length_eq_zero (by omega)
    subst this
    exact (Imp.nilS T 1).sat (s.ext (Ext.ofBelow hb))
  · refine ⟨some ⟨g, 0, none⟩, cap, rfl, s.fresh (Ext.ofBelow hb) hg ho (fun h hh => ⟨hl, hle, .inr ⟨g, [], cur.toList.drop (n * 1), rfl, ?_, ⟨(0, 0), ?_, .inl (Nat.le_refl _)⟩⟩⟩)⟩
    · rw [List.length_drop, hl]
      have : cur.toList.length = cap * 1 := by simpa using hsz
      omega
    · rw [hh]
      have : ([] ++ xs ++ cur.toList.drop (n * 1)).toArray = cur := by
        rw [List.nil_append, ← htk, List.take_append_drop]
      rw [this]
end Go.GL
/- Maps: ranges over them, entries that are deleted, comparison with nil. -/
namespace Go.GL
open Go Go.MapKept
open Go.ChangeMaps (setBlock)
def delM (m : Int → Option Value) (k : Int) : Int → Option Value := fun x => if x = k then none else m x
theorem MapEs.erase {m : Int → Option Value} {es : Array MapEntry} {clock : Nat} (h : MapEs m es clock) {k : Int} {j : Nat} {e : MapEntry} (hj : es.toList[j]? = some e) (hk : e.key = .int .i64 k) : MapEs (delM m k) (es.eraseIdxIfInBounds j) clock ∧ ∀ x ∈ (es.eraseIdxIfInBounds j).toList, x ∈ es.toList := by
  have hjl : j < es.size := by simpa using (List.getElem?_eq_some_iff.1 hj).1
  have hsub : (es.eraseIdxIfInBounds j).toList = es.toList.eraseIdx j := by
    unfold Array.eraseIdxIfInBounds
    rw [dif_pos hjl]
    simp
  have hin : ∀ x ∈ es.toList.eraseIdx j, x ∈ es.toList := fun x hx => (List.eraseIdx_sublist _ _).subset hx
  have hne : ∀ x ∈ es.toList.eraseIdx j, x.key ≠ .int .i64 k := fun x hx hxk => by
    have he : x = e := stamped_key h.st (hin x hx) (List.mem_of_getElem? hj) (by rw [hxk, hk])
    subst he
    obtain ⟨i, hi, hx2⟩ := List.mem_eraseIdx_iff_getElem.1 hx
    obtain ⟨_, _, h3⟩ := h.st
    obtain ⟨hne, hx3⟩ := hx2
    have hjl2 : j < es.toList.length := (List.getElem?_eq_some_iff.1 hj).1
    have e2 := (List.getElem?_eq_some_iff.1 hj).2
    have hi2 : i < es.toList.length := hi
    exact hne ((List.getElem_inj (i := i) (j := j) (h₀ := by simpa using hi2) (h₁ := by simpa using hjl2) h3).1 (by simp only [List.getElem_map, e2, hx3]))
  have hback : ∀ x ∈ es.toList, x.key ≠ .int .i64 k → x ∈ es.toList.eraseIdx j := fun x hx hxk => by
    obtain ⟨i, hi, rfl⟩ := List.getElem_of_mem hx
    refine List.mem_eraseIdx_iff_getElem.2 ⟨i, hi, ⟨fun hij => ?_, rfl⟩⟩
    subst hij
    have e2 := (List.getElem?_eq_some_iff.1 hj).2
    rw [e2] at hxk
    exact hxk hk
  refine ⟨⟨stamped_erase h.st j, fun x hx => h.keys x (hin x (hsub ▸ hx)), fun a u => ?_⟩, fun x hx => hin x (hsub ▸ hx)⟩
  rw [hsub]
  unfold delM
  constructor
  · intro hu
    split at hu
    · cases hu
    · rename_i ha
      obtain ⟨x, hx, h1, h2⟩ := (h.says a u).1 hu
      exact ⟨x, hback x hx (fun h3 => ha (by rw [h1] at h3; simpa using h3)), h1, h2⟩
  · rintro ⟨x, hx, h1, h2⟩
    have ha : a ≠ k := fun e => hne x hx (by rw [h1, e])
    rw [if_neg ha]
    exact (h.says a u).2 ⟨x, hin x hx, h1, h2⟩
section
variable {G : Ctx} {N : Nat} {env : Env} {L : List Assn} {o : Oper} {post : Env → List Assn → Prop} {d : Nat}
/-- range m -/
theorem OP.rangeMap {t kt e : TypeId} {x : Operand} {tm : TI} {r : Nat} {es : Array MapEntry} {clock : Nat} (ho : o.op = .range t x) (hx : rd none env x = some (none, .map (some r)))
    (ht : G.T.find t = some tm) (hdm : tm.desc = .map kt e) (hm : Ent L (objA r (.map es clock))) (hd : o.dst = some d) (hN : Nat.blt d N = true)
    (h : ∀ it, post ((d, .val (.pointer (some ⟨it, 0, none⟩))) :: env) (objA it (.mapIter (some r) clock #[] clock) :: L)) : OP G N o env L post := .mk fun a w ha hs => by
  have hb : w.heap[r]? = some (.map es clock) := hpOf_obj.1 (hm _ hs)
  have u : G.P.underlying t = some (.map kt e) := hdm ▸ (Tab.find_ok G.ok ht).desc
  have hr : (execOp a.eval o).run G.P w = .ok (.value (.pointer (some ⟨w.heap.size, 0, none⟩))) { w with heap := w.heap.push (.mapIter (some r) clock #[] clock) } := by
    rw [execOp, ho]
    simp [Instr.range, run_underlying u, rd_plain hx ha, MapKept.run_getObj_map hb]
  unfold Oper.wp
  rw [hr]
  simp only [Oper.upon, hd]
  exact ⟨_, _, ha.put hN _, hs.newObj _, h _⟩
/-- range of a nil map -/
theorem OP.rangeNil {t kt e : TypeId} {x : Operand} {tm : TI} (ho : o.op = .range t x) (hx : rd none env x = some (none, .map none))
    (ht : G.T.find t = some tm) (hdm : tm.desc = .map kt e) (hd : o.dst = some d) (hN : Nat.blt d N = true)
    (h : ∀ it, post ((d, .val (.pointer (some ⟨it, 0, none⟩))) :: env) (objA it (.mapIter none 0 #[] 0) :: L)) : OP G N o env L post := .mk fun a w ha hs => by
  have u : G.P.underlying t = some (.map kt e) := hdm ▸ (Tab.find_ok G.ok ht).desc
  have hr : (execOp a.eval o).run G.P w = .ok (.value (.pointer (some ⟨w.heap.size, 0, none⟩))) { w with heap := w.heap.push (.mapIter none 0 #[] 0) } := by
    rw [execOp, ho]
    simp [Instr.range, run_underlying u, rd_plain hx ha]
  unfold Oper.wp
  rw [hr]
  simp only [Oper.upon, hd]
  exact ⟨_, _, ha.put hN _, hs.newObj _, h _⟩
theorem OP.nextNil {x : Operand} {it : Nat} (ho : o.op = .next x false) (hx : rd none env x = some (none, .pointer (some ⟨it, 0, none⟩))) (hm : Ent L (objA it (.mapIter none 0 #[] 0))) (hd : o.dst = some d) (hN : Nat.blt d N = true)
    (h : post ((d, .val (.tuple #[.bool false])) :: env) L) : OP G N o env L post :=
  .run (fun a w ha hs => by
    have hb : w.heap[it]? = some (.mapIter none 0 #[] 0) := hpOf_obj.1 (hm _ hs)
    rw [execOp, ho]
    simp [Instr.next, rd_plain hx ha, getObj, Sem.run, hb, Result.andThen]) hd hN h
/-- the next entry, whichever it is -/
theorem OP.nextMap {x : Operand} {it r since c0 : Nat} {seen : Array Nat} {es : Array MapEntry} {clock : Nat} {M : List Assn} (ho : o.op = .next x false) (hx : rd none env x = some (none, .pointer (some ⟨it, 0, none⟩)))
    (hI : Imp L (objA it (.mapIter (some r) since seen c0) :: M)) (hm : Ent M (objA r (.map es clock))) (hold : ∀ x ∈ es.toList, x.born < since) (hsc : since ≤ c0) (hd : o.dst = some d) (hN : Nat.blt d N = true)
    (h0 : (∀ e ∈ es.toList, seen.contains e.born = true) → post ((d, .val (.tuple #[.bool false])) :: env) (objA it (.mapIter (some r) since seen c0) :: M))
    (h1 : ∀ e ∈ es.toList, seen.contains e.born = false → post ((d, .val (.tuple #[.bool true, e.key, e.val])) :: env) (objA it (.mapIter (some r) since (seen.push e.born) clock) :: M)) : OP G N o env L post := .mk fun a w ha hs => by
  have hs2 := hI.sat hs
  have hit := hs2.obj
  have hb : w.heap[r]? = some (.map es clock) := hpOf_obj.1 (hm _ (stars_drop hs2))
  have hx2 : (execOp a.eval o).run G.P w = ((Instr.next (.pointer (some ⟨it, 0, none⟩)) false o.type).run G.P w).andThen fun v w' => .ok (.value v) w' := by
    rw [execOp, ho]
    simp only [rd_plain hx ha, Sem.run_bind, Sem.run_pure]
  unfold Oper.wp
  rcases run_next_at (P := G.P) w o.type it r since c0 seen es clock hit hb hold hsc with ⟨hz, hr⟩ | ⟨e, he, w1, hw, hr⟩
  · rw [hx2, hr]
    simp only [Result.andThen, Oper.upon, hd]
    refine ⟨_, _, ha.put hN _, hs2, h0 fun e he => ?_⟩
    cases hc : seen.contains e.born with
    | true => rfl
    | false =>
      have hm2 : e ∈ leftOf es seen := by unfold leftOf; rw [Array.mem_filter]; exact ⟨by simpa using he, by rw [hc]; rfl⟩
      have := Array.eq_empty_of_size_eq_zero hz
      rw [this] at hm2
      simp at hm2
  · rw [hx2, hr]
    simp only [Result.andThen, Oper.upon, hd]
    have he2 : e ∈ es.toList ∧ seen.contains e.born = false := by
      have : e ∈ leftOf es seen := by simpa using he
      unfold leftOf at this
      rw [Array.mem_filter] at this
      exact ⟨by simpa using this.1, by simpa using this.2⟩
    refine ⟨_, _, ha.put hN _, ?_, h1 e he2.1 he2.2⟩
    have hsw : Sat (objA it (.mapIter (some r) since seen c0) :: M) w1 := by rcases hw with rfl | rfl <;> exact hs2
    exact hsw.setObj _
/-- what the step handed out -/
theorem OP.entry {x : Operand} {it r since : Nat} {seen : Array Nat} {es : Array MapEntry} {clock : Nat} {e : MapEntry} (ho : o.op = .entry x) (hx : rd none env x = some (none, .pointer (some ⟨it, 0, none⟩)))
    (hI : Ent L (objA it (.mapIter (some r) since (seen.push e.born) clock))) (hm : Ent L (objA r (.map es clock))) (he : e ∈ es.toList) (st : Stamped es clock) (hd : o.dst = some d) (hN : Nat.blt d N = true)
    (h : post ((d, .val (.tuple #[e.key, e.val])) :: env) L) : OP G N o env L post :=
  .run (fun a w ha hs => by
    have hit : w.heap[it]? = some (.mapIter (some r) since (seen.push e.born) clock) := hpOf_obj.1 (hI _ hs)
    have hb : w.heap[r]? = some (.map es clock) := hpOf_obj.1 (hm _ hs)
    rw [execOp, ho]
    simp [rd_plain hx ha, run_entry_at w it r since seen es clock e hit hb he st.2.1]) hd hN h
/-- delete(m, k) -/
theorem OP.delete {x y : Operand} {t t2 kt e : TypeId} {tm tk : TI} {r : Nat} {k : Int} {m : Int → Option Value} {es : Array MapEntry} {clock : Nat} {M : List Assn} (ho : o.op = .call ⟨.builtin .delete, #[x, y], #[t, t2]⟩) (hx : rd none env x = some (none, .map (some r))) (hy : rd none env y = some (none, .int .i64 k))
    (ht : G.T.find t = some tm) (hdm : tm.desc = .map kt e) (htk : G.T.find kt = some tk) (hdk : tk.desc = .int .i64) (hI : Imp L (objA r (.map es clock) :: M)) (he : MapEs m es clock) (hd : o.dst = none)
    (h : ∀ es', MapEs (delM m k) es' clock → (∀ x ∈ es'.toList, x ∈ es.toList) → post env (objA r (.map es' clock) :: M)) : OP G N o env L post := .mk fun a w ha hs => by
  have hs2 := hI.sat hs
  have hb := hs2.obj
  have u : G.P.underlying t = some (.map kt e) := hdm ▸ (Tab.find_ok G.ok ht).desc
  have uk : G.P.underlying kt = some (.int .i64) := hdk ▸ (Tab.find_ok G.ok htk).desc
  unfold Oper.wp
  rcases he.find k with ⟨g1, g2, g3⟩ | ⟨j, en, g1, g2, g3, g4⟩
  · have hr : (execOp a.eval o).run G.P w = .ok (.value (.tuple #[])) { w with heap := w.heap.setIfInBounds r (.map es clock) } := by
      rw [execOp, ho]
      simp [resolve, invoke, builtin, Builtin.delete_, run_underlying u, rd_plain hx ha, rd_plain hy ha, MapKept.run_getObj_map hb, run_checkKey (k := .int .i64 k) uk rfl, run_findKey uk g2, MapKept.run_setObj_map _ hb, Result.andThen]
    rw [hr]
    simp only [Oper.upon, hd]
    refine ⟨_, _, ha.none _, hs2.setObj _, h es ⟨he.st, he.keys, fun a u => ?_⟩ fun _ hx => hx⟩
    have hdm : delM m k = m := by
      funext z
      unfold delM
      split
      · rename_i hz; rw [hz, g1]
      · rfl
    rw [hdm]
    exact he.says a u
  · obtain ⟨h5, h6⟩ := he.erase g3 g4
    have hr : (execOp a.eval o).run G.P w = .ok (.value (.tuple #[])) { w with heap := w.heap.setIfInBounds r (.map (es.eraseIdxIfInBounds j) clock) } := by
      rw [execOp, ho]
      simp [resolve, invoke, builtin, Builtin.delete_, run_underlying u, rd_plain hx ha, rd_plain hy ha, MapKept.run_getObj_map hb, run_checkKey (k := .int .i64 k) uk rfl, run_findKey uk g2, MapKept.run_setObj_map _ hb, Result.andThen]
    rw [hr]
    simp only [Oper.upon, hd]
    exact ⟨_, _, ha.none _, hs2.setObj _, h _ h5 h6⟩
theorem equalIn_map_nil {P : Program} {t kt e : TypeId} (d : Nat) (h : P.underlying t = some (.map kt e)) (mo : Option Nat) (w : World) : (Op.equalIn (d + 1) t (.map mo) (.map none)).run P w = .ok mo.isNone w := by
  cases mo <;> simp [Op.equalIn, run_underlying h]
/-- m == nil -/
theorem OP.mapNil {t kt e : TypeId} {x : Operand} {tm : TI} {mo : Option Nat} (ho : o.op = .binOp .eql t x (.const (.map none)) t) (hx : rd none env x = some (none, .map mo))
    (ht : G.T.find t = some tm) (hdm : tm.desc = .map kt e) (hd : o.dst = some d) (hN : Nat.blt d N = true)
    (h : post ((d, .val (.bool mo.isNone)) :: env) L) : OP G N o env L post :=
  .run (fun a w ha hs => by
    have u : G.P.underlying t = some (.map kt e) := hdm ▸ (Tab.find_ok G.ok ht).desc
    have e1 : (Op.equalIn 10000 t (.map mo) (.map none)).run G.P w = .ok mo.isNone w := equalIn_map_nil 9999 u mo w
    have e2 := bin_eq (x := .map mo) (y := .map none) (t := t) rfl e1
    have e3 : (eqGuard .eql t x (.const (.map none)) (.map mo) (.map none)).run G.P w = .ok () w := guard_free (fun _ _ h => by cases h.1) (fun h => by cases h)
    rw [execOp, ho]
    simp only [rd_plain hx ha, show a.eval (.const (.map none)) = .map none from rfl, Sem.run_bind, e3, e2, Result.andThen_ok, Sem.run_pure]) hd hN h
end
end Go.GL
