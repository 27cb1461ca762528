/- Calls of functions without a body, by what they come to; calls through an interface. -/
import Derived.Test.YtkoakmaihcheaacDoorGLq
import Derived.Laws.Externs
import Derived.Stop.Asserts
namespace Go.GL
open Go
/-- A function without a body, and what it comes to. -/
def IsExt (P : Program) (f : FuncId) (e : Array Value → Sem Value) : Prop := ∀ args w, (callFunc f args).run P w = ((e args).run P w).andThen fun v w' => .ok (.value v) w'
section
variable {G : Ctx} {N : Nat} {env : Env} {L : List Assn} {o : Oper} {post : Env → List Assn → Prop} {d : Nat}
/-- What an operation that calls such a function comes to. -/
structure Execs (G : Ctx) (N : Nat) (env : Env) (o : Oper) (e : Array Value → Sem Value) (args : List Value) : Prop where
  run : ∀ a w, Agree N env a → (execOp a.eval o).run G.P w = ((e args.toArray).run G.P w).andThen fun v w' => .ok (.value v) w'
theorem Execs.call {f : FuncId} {xs : List Operand} {ats : Array TypeId} {vs : List Value} {e : Array Value → Sem Value} (he : IsExt G.P f e) (ho : o.op = .call ⟨.value (.func f), xs.toArray, ats⟩) (hv : rdAll env xs = some vs) : Execs G N env o e vs := ⟨fun a w ha => by
  rw [← he]
  simp only [execOp, ho, resolve, Act.eval, Deferred.ofValue, Sem.run_bind, Sem.run_pure, Result.andThen_ok, invoke]
  have := rdAll_ok ha hv
  simp [← this]⟩
theorem Execs.inv {f : FuncId} {recv : Operand} {name : String} {xs : List Operand} {ats : Array TypeId} {vs : List Value} {t : TypeId} {x r : Value} {e : Array Value → Sem Value} (he : IsExt G.P f e) (ho : o.op = .call ⟨.invoke recv name, xs.toArray, ats⟩) (hx : rd none env recv = some (none, .iface t x)) (hv : rdAll env xs = some vs)
    (hm : ∀ w, (method (G.P.types.size + Made.depth) t x name).run G.P w = .ok (f, r) w) : Execs G N env o e (r :: vs) := ⟨fun a w ha => by
  rw [← he]
  have h1 := rdAll_ok ha hv
  have h2 := rd_plain hx ha
  simp only [execOp, ho, resolve, Sem.run_bind, Sem.run_pure, Result.andThen_ok, invoke]
  simp [h2, h1, callMethod, hm]⟩
theorem OP.extP {e : Array Value → Sem Value} {vs : List Value} {v : Value} (x : Execs G N env o e vs) (hr : ∀ w, Sat L w → (e vs.toArray).run G.P w = .ok v w) (hd : o.dst = some d) (hN : Nat.blt d N = true) (h : post ((d, .val v) :: env) L) : OP G N o env L post :=
  .run (fun a w ha hs => by rw [x.run a w ha, hr w hs]; rfl) hd hN h
theorem OP.extNew {e : Array Value → Sem Value} {vs : List Value} {c : List Value} {T : TypeId} {mk : Nat → Value} (x : Execs G N env o e vs) (hr : ∀ w, Sat L w → (e vs.toArray).run G.P w = .ok (mk w.heap.size) (w.alloc (.cells c.toArray T))) (hd : o.dst = some d) (hN : Nat.blt d N = true)
    (h : ∀ b, post ((d, .val (mk b)) :: env) (blk b c T :: L)) : OP G N o env L post := .mk fun a w ha hs => by
  unfold Oper.wp
  rw [x.run a w ha, hr w hs]
  simp only [Result.andThen_ok, Oper.upon, hd]
  exact ⟨_, _, ha.put hN _, hs.new c T, h _⟩
theorem OP.extSet {e : Array Value → Sem Value} {vs : List Value} {v : Value} {b off : Nat} {c : List Value} {T : TypeId} {y : Value} {M : List Assn} (x : Execs G N env o e vs) (hr : ∀ w, Sat L w → (e vs.toArray).run G.P w = .ok v (w.setCell ⟨b, off, none⟩ y)) (hu : Upd L b c T (c.set off y) M) (hd : o.dst = some d) (hN : Nat.blt d N = true)
    (h : post ((d, .val v) :: env) M) : OP G N o env L post := .mk fun a w ha hs => by
  unfold Oper.wp
  rw [x.run a w ha, hr w hs]
  simp only [Result.andThen_ok, Oper.upon, hd]
  exact ⟨_, _, ha.put hN _, Sat.set hu hs, h⟩
/-- x.(I), with comma-ok -/
theorem OP.assert {x : Operand} {xT I t : TypeId} {v r : Value} (ho : o.op = .typeAssert x xT I true) (hx : rd none env x = some (none, .iface t v)) (hr : ∀ w, (Instr.typeAssert (.iface t v) xT I true).run G.P w = .ok r w) (hd : o.dst = some d) (hN : Nat.blt d N = true) (h : post ((d, .val r) :: env) L) : OP G N o env L post :=
  .run (fun a w ha _ => by
    rw [execOp, ho]
    refine val_run ?_
    rw [rd_plain hx ha]
    exact hr w) hd hN h
/-- a method that has a body, called through an interface -/
theorem OP.invRO {f : FuncId} {recv : Operand} {name : String} {ats : Array TypeId} {t : TypeId} {x r v : Value} {R : Assn} (ho : o.op = .call ⟨.invoke recv name, #[], ats⟩) (hx : rd none env recv = some (none, .iface t x))
    (hm : ∀ w, (method (G.P.types.size + Made.depth) t x name).run G.P w = .ok (f, r) w) (ht : RO G f [r] R v) (he : Ent L R) (hd : o.dst = some d) (hN : Nat.blt d N = true) (h : post ((d, .val v) :: env) L) : OP G N o env L post := .mk fun a w ha hs => by
  obtain ⟨dst, op, type, pos, after, guard⟩ := o
  simp only at ho hd
  subst ho hd
  have hcall : (execOp a.eval ⟨some d, .call ⟨.invoke recv name, #[], ats⟩, type, pos, after, guard⟩).run G.P w = .ok (.enter f [r].toArray) w := by
    obtain ⟨fn, c, h1, h2, h3⟩ := ht.enters.ex
    have h2' := rd_plain hx ha
    simp only [execOp, resolve, Sem.run_bind, Sem.run_pure, Result.andThen_ok, invoke]
    have h4 : ¬ fn.name = "runtime.NumGoroutine" := by simpa using h2
    simp [h2', callMethod, hm, callFunc, h1, h4, h3]
  unfold Oper.wp
  rw [hcall]
  simp only [Oper.upon]
  refine (ht.calls w (he _ hs)).mono ?_
  rintro e w' ⟨rfl, x⟩
  exact ⟨_, _, ha.put hN v, hs.ext x, h⟩
end
end Go.GL
