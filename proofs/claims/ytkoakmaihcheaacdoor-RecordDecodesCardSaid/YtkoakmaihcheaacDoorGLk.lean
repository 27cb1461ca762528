/- Small steps of a walk. -/
import Derived.Test.YtkoakmaihcheaacDoorGLj
namespace Go.GL
open Go
section
variable {G : Ctx} {N : Nat} {env : Env} {L : List Assn} {k : Kont} {ops : Array Oper} {rest : List Oper} {o : Oper}
theorem seqK.exit {y : Code} {i : Nat} (h : k (.exit i) env L) : seqK G N y k (.exit i) env L := h
theorem seqK.ret {y : Code} (h : k .ret env L) : seqK G N y k .ret env L := h
theorem blockK.hit {id i : Nat} (hb : Nat.beq i id = true) (h : k .normal env L) : blockK id k (.exit i) env L := by simp only [blockK, hb]; exact h
theorem blockK.miss {id i : Nat} (hb : Nat.beq i id = false) (h : k (.exit i) env L) : blockK id k (.exit i) env L := by simp only [blockK, hb]; exact h
theorem blockK.normal {id : Nat} (h : k .normal env L) : blockK id k .normal env L := h
theorem blockK.ret {id : Nat} (h : k .ret env L) : blockK id k .ret env L := h
theorem loopK.exit {n : Env → List Assn → Prop} {i : Nat} (h : k (.exit i) env L) : loopK n k (.exit i) env L := h
theorem loopK.ret {n : Env → List Assn → Prop} (h : k .ret env L) : loopK n k .ret env L := h
theorem loopK.go {n : Env → List Assn → Prop} (h : n env L) : loopK n k .normal env L := h
theorem WC.condT {c : Operand} {x y : Code} (hc : rd none env c = some (none, .bool true)) (h : WC G N x env L k) : WC G N (.cond c x y) env L k := .cond hc (fun _ => h) (fun e => by cases e)
theorem WC.condF {c : Operand} {x y : Code} (hc : rd none env c = some (none, .bool false)) (h : WC G N y env L k) : WC G N (.cond c x y) env L k := .cond hc (fun e => by cases e) (fun _ => h)
theorem WL.guardT {j t : Nat} {want : Bool} {oj : Oper} (hg : o.guard = some (j, want)) (hj : ops[j]? = some oj) (ht : oj.dst = some t) (hq : gdOf env t want = some true) (h : OP G N o env L (fun e M => WL G N ops rest e M k)) : WL G N ops (o :: rest) env L k := .mk fun a w ha hs => by
  have hw := gdOf_ok ha hq hj ht hg
  unfold wpList
  rw [hw, if_pos rfl]
  exact .inl (wp_oper_mono (fun a w ⟨e, M, x, y, z⟩ => z a w x y) (fun _ _ _ h => h.elim) (h a w ha hs))
theorem WL.guardF {j t d : Nat} {want : Bool} {oj : Oper} (hg : o.guard = some (j, want)) (hj : ops[j]? = some oj) (ht : oj.dst = some t) (hq : gdOf env t want = some false) (hd : o.dst = some d) (hN : Nat.blt d N = true) (h : WL G N ops rest ((d, .val undef) :: env) L k) : WL G N ops (o :: rest) env L k := .mk fun a w ha hs => by
  have hw := gdOf_ok ha hq hj ht hg
  unfold wpList
  rw [hw, if_neg (by simp), hd]
  exact h _ w (ha.put hN _) hs
section
variable {post : Env → List Assn → Prop} {d : Nat} {nw : Bool} {c : Option Prop} {p : Prop} [Decidable p]
theorem OP.decT (he : ev G.T nw none env o.op = some (c, .bool (decide p))) (hc : Holds c) (hp : p) (hd : o.dst = some d) (hN : Nat.blt d N = true) (h : post ((d, .val (.bool true)) :: env) L) : OP G N o env L post :=
  .pureEq he hc (by simp [hp]) hd hN h
theorem OP.decF (he : ev G.T nw none env o.op = some (c, .bool (decide p))) (hc : Holds c) (hp : ¬ p) (hd : o.dst = some d) (hN : Nat.blt d N = true) (h : post ((d, .val (.bool false)) :: env) L) : OP G N o env L post :=
  .pureEq he hc (by simp [hp]) hd hN h
theorem OP.decNT (he : ev G.T nw none env o.op = some (c, .bool (!decide p))) (hc : Holds c) (hp : ¬ p) (hd : o.dst = some d) (hN : Nat.blt d N = true) (h : post ((d, .val (.bool true)) :: env) L) : OP G N o env L post :=
  .pureEq he hc (by simp [hp]) hd hN h
theorem OP.decNF (he : ev G.T nw none env o.op = some (c, .bool (!decide p))) (hc : Holds c) (hp : p) (hd : o.dst = some d) (hN : Nat.blt d N = true) (h : post ((d, .val (.bool false)) :: env) L) : OP G N o env L post :=
  .pureEq he hc (by simp [hp]) hd hN h
end
section
variable {post : Env → List Assn → Prop} {d : Nat} {x y z : Operand} {v : Value}
theorem OP.pickT (ho : o.op = .pick x y z) (hx : rd none env x = some (none, .bool true)) (hv : rd none env y = some (none, v)) (hd : o.dst = some d) (hN : Nat.blt d N = true) (h : post ((d, .val v) :: env) L) : OP G N o env L post :=
  .run (fun a w ha _ => by rw [execOp, ho]; simp [rd_plain hx ha, rd_plain hv ha, asBool]) hd hN h
theorem OP.pickF (ho : o.op = .pick x y z) (hx : rd none env x = some (none, .bool false)) (hv : rd none env z = some (none, v)) (hd : o.dst = some d) (hN : Nat.blt d N = true) (h : post ((d, .val v) :: env) L) : OP G N o env L post :=
  .run (fun a w ha _ => by rw [execOp, ho]; simp [rd_plain hx ha, rd_plain hv ha, asBool]) hd hN h
end
/-- What follows from the memory alone. -/
theorem WC.fact {c : Code} {p : Prop} (e : Ent L (fun _ => p)) (h : p → WC G N c env L k) : WC G N c env L k := .mk fun a w ha hs => h (e _ hs) a w ha hs
theorem WL.fact {p : Prop} (e : Ent L (fun _ => p)) (h : p → WL G N ops rest env L k) : WL G N ops rest env L k := .mk fun a w ha hs => h (e _ hs) a w ha hs
theorem OP.fact {p : Prop} {post : Env → List Assn → Prop} (e : Ent L (fun _ => p)) (h : p → OP G N o env L post) : OP G N o env L post := .mk fun a w ha hs => h (e _ hs) a w ha hs
/-- The two branches of a test meet again. -/
theorem WC.meet {x y : Code} (k' : Env → List Assn → Prop) (hx : WC G N x env L (fun e E M => match e with | .normal => k' E M | e => k e E M)) (hy : ∀ E M, k' E M → WC G N y E M k) : WC G N (.seq x y) env L k :=
  .seq (hx.mono (fun e E M h => by cases e <;> first | exact hy _ _ h | exact h))
theorem setMany_one {c : List Value} {n : Nat} (v : Value) (h : n < c.length) : setMany c n [v] = some (c.set n v) := by simp [setMany, setOne_lt v h]
theorem ret1 {p : Value → List Assn → Prop} {t : Nat} {v : Value} (h1 : Env.get env t = some (.val v)) (h2 : p v L) : retK G [.tmp t] p .ret env L := ⟨[v], ⟨v, [], rfl, h1, rfl⟩, h2⟩
theorem ret0 {p : Value → List Assn → Prop} (h2 : p (.tuple #[]) L) : retK G [] p .ret env L := ⟨[], rfl, h2⟩
theorem ret0n {p : Value → List Assn → Prop} (h2 : p (.tuple #[]) L) : retK G [] p .normal env L := ⟨[], rfl, h2⟩
theorem ret2 {p : Value → List Assn → Prop} {t u : Nat} {v x : Value} (h1 : Env.get env t = some (.val v)) (h2 : Env.get env u = some (.val x)) (h : p (.tuple #[v, x]) L) : retK G [.tmp t, .tmp u] p .ret env L :=
  ⟨[v, x], ⟨v, [x], rfl, h1, x, [], rfl, h2, rfl⟩, h⟩
theorem ret3 {p : Value → List Assn → Prop} {t u s : Nat} {v x y : Value} (h1 : Env.get env t = some (.val v)) (h2 : Env.get env u = some (.val x)) (h3 : Env.get env s = some (.val y)) (h : p (.tuple #[v, x, y]) L) : retK G [.tmp t, .tmp u, .tmp s] p .ret env L :=
  ⟨[v, x, y], ⟨v, [x, y], rfl, h1, x, [y], rfl, h2, y, [], rfl, h3, rfl⟩, h⟩
theorem retA {p : Value → List Assn → Prop} {t ty b off : Nat} {ti : TI} {l : List Value} (h1 : Env.get env t = some (.val (.pointer (some ⟨b, off, none⟩)))) (ht : G.T.find ty = some ti) (hg : ti.agg = true) (hl : l.length = ti.size) (hc : Ent L (cellsAt b off l)) (h : p (.agg l.toArray) L) :
    retK G [.cell t ty] p .ret env L := ⟨[.agg l.toArray], ⟨b, off, _, [], ti, rfl, h1, ht, .inr ⟨hg, l, rfl, hl, hc⟩, rfl⟩, h⟩

/-- an element of a slice of one-cell elements, under a reading of it -/
theorem Ent.elem {a : Option Addr} {n size i b off : Nat} {cs : List Value} {v : Value} (hr : Ent L (readS a n size cs)) (ha : a = some ⟨b, off, none⟩) (hv : cs[i]? = some v) : Ent L (cellAt b (off + i) v) := fun h s => by
  obtain ⟨e, ⟨rfl, _⟩ | ⟨b', off', e', c, T, fr, hb, hc⟩⟩ := hr h s
  · cases ha
  · rw [ha] at e'; cases e'
    exact ⟨c, T, fr, hb, hc i v hv⟩
theorem Ent.elems {a : Option Addr} {n size i b off : Nat} {cs l : List Value} (hr : Ent L (readS a n size cs)) (ha : a = some ⟨b, off, none⟩) (hl : l = (cs.drop i).take l.length) : Ent L (cellsAt b (off + i) l) := fun h s => by
  obtain ⟨e, ⟨rfl, _⟩ | ⟨b', off', e', c, T, fr, hb, hc⟩⟩ := hr h s
  · cases ha
  · rw [ha] at e'; cases e'
    refine ⟨c, T, fr, hb, fun j v hj => ?_⟩
    have : cs[i + j]? = some v := by
      rw [hl, List.getElem?_take] at hj
      split at hj
      · simpa using hj
      · cases hj
    have := hc (i + j) v this
    rwa [← Nat.add_assoc] at this
/-- a slice with an element has an array -/
theorem Ent.some {a : Option Addr} {n size : Nat} {cs : List Value} (hr : Ent L (readS a n size cs)) (hn : 0 < n) : Ent L (fun _ => ∃ b off, a = some ⟨b, off, none⟩) := fun h s => by
  obtain ⟨_, ⟨_, e⟩ | ⟨b, off, e, _⟩⟩ := hr h s
  · omega
  · exact ⟨b, off, e⟩
theorem Ent.len {a : Option Addr} {n size : Nat} {cs : List Value} (hr : Ent L (readS a n size cs)) : Ent L (fun _ => cs.length = n * size) := fun h s => (hr h s).1
theorem cellsAt_sub {b off i : Nat} {l l' : List Value} {h : Hp} (x : cellsAt b off l h) (e : l' = (l.drop i).take l'.length) : cellsAt b (off + i) l' h := by
  obtain ⟨c, T, fr, hb, hc⟩ := x
  refine ⟨c, T, fr, hb, fun j v hj => ?_⟩
  have : l[i + j]? = Option.some v := by
    rw [e, List.getElem?_take] at hj
    split at hj
    · simpa using hj
    · cases hj
  have := hc (i + j) v this
  rwa [← Nat.add_assoc] at this
theorem cellsAt_one {b off i : Nat} {l : List Value} {v : Value} {h : Hp} (x : cellsAt b off l h) (e : l[i]? = Option.some v) : cellAt b (off + i) v h := by
  obtain ⟨c, T, fr, hb, hc⟩ := x
  exact ⟨c, T, fr, hb, hc i v e⟩
theorem Ent.sub {b off i : Nat} {l l' : List Value} (x : Ent L (cellsAt b off l)) (e : l' = (l.drop i).take l'.length) : Ent L (cellsAt b (off + i) l') := fun h s => cellsAt_sub (x h s) e
theorem Ent.one {b off i : Nat} {l : List Value} {v : Value} (x : Ent L (cellsAt b off l)) (e : l[i]? = Option.some v) : Ent L (cellAt b (off + i) v) := fun h s => cellsAt_one (x h s) e
theorem Ent.whole {b : Nat} {c : List Value} {T : TypeId} (m : GL.blk b c T ∈ L) : Ent L (cellsAt b 0 c) := Ent.mem m (up_blk b c T) fun h ⟨fr, hb, _⟩ => ⟨_, T, fr, hb, fun i v hi => by simpa using hi⟩
/-- A call that changes nothing that was there, and makes new memory 'E': where 'R' holds. -/
structure RT (G : Ctx) (f : FuncId) (args : List Value) (R : Assn) (p : Value → List Assn → Prop) : Prop where
  enters : Enters G.P f
  calls : ∀ M w, Ent M R → Sat M w → Calls G.P f args.toArray w (fun e w' => ∃ v E, e = .returned v ∧ p v E ∧ Sat (E ++ M) w')
theorem RT.enter {f : FuncId} {fn : Func} {c : Code} {vs : List Value} {rs : List ResultVar} {R : Assn} {p : Value → List Assn → Prop} (hf : G.P.funcs[f]? = Option.some fn) (hb : fn.body = Option.some c) (hname : (fn.name == "runtime.NumGoroutine") = false) (hr : fn.results = rs.toArray) (hn : fn.ntmps = N)
    (hv : Nat.ble vs.length N = true) (h : ∀ A, Up A → (∀ k, A k → R k) → WC G N c (args0 0 vs) [A] (retK G rs (fun v M => ∃ E, p v E ∧ Imp M (E ++ [A])))) : RT G f vs R p :=
  ⟨⟨fn, c, hf, hname, hb⟩, fun M w he hs => (body_calls hf hb hr hn hv (h (stars M) (up_stars M) he) w (stars_one.1 hs)).mono fun _ _ ⟨v, _, e, ⟨E, h1, h2⟩, s⟩ => ⟨v, E, e, h1, stars_app_one.2 (h2 _ s)⟩⟩
theorem RO.rt {f : FuncId} {args : List Value} {R : Assn} {v : Value} (h : RO G f args R v) : RT G f args R (fun v' E => v' = v ∧ E = []) :=
  ⟨h.enters, fun _ w he hs => (h.calls w (he _ hs)).mono fun _ _ ⟨e, x⟩ => ⟨v, [], e, ⟨rfl, rfl⟩, hs.ext x⟩⟩
theorem RT.triple {f : FuncId} {args : List Value} {R : Assn} {p : Value → List Assn → Prop} (h : RT G f args R p) {M : List Assn} (he : Ent M R) : Triple G f args M (fun v M' => ∃ E, p v E ∧ M' = E ++ M) :=
  ⟨h.enters, fun F w hs => (h.calls (M ++ F) w (fun k s => he k (stars_append_left s)) hs).mono fun _ _ ⟨v, E, e, hp, s⟩ => ⟨v, E ++ M, e, ⟨E, hp, rfl⟩, by rw [List.append_assoc]; exact s⟩⟩
theorem OP.callRT {post : Env → List Assn → Prop} {d : Nat} {f : FuncId} {xs : List Operand} {ats : Array TypeId} {vs : List Value} {R : Assn} {p : Value → List Assn → Prop} (ho : o.op = .call ⟨.value (.func f), xs.toArray, ats⟩) (hv : rdAll env xs = Option.some vs) (ht : RT G f vs R p) (he : Ent L R)
    (hd : o.dst = Option.some d) (hN : Nat.blt d N = true) (h : ∀ v E, p v E → post ((d, .val v) :: env) (E ++ L)) : OP G N o env L post :=
  .call (F := []) ho hv (ht.triple he) (by rw [List.append_nil]; exact Imp.refl _) hd hN (fun v M ⟨E, e1, e2⟩ => by rw [List.append_nil, e2]; exact h v E e1)
theorem Ent.ownLe {a : Option Addr} {n cap size : Nat} {T : TypeId} {cs : List Value} (m : GL.ownS a n cap T size cs ∈ L) : Ent L (fun _ => n ≤ cap) := fun _ s => (stars_mem m (up_ownS _ _ _ _ _ _) s).2.1
theorem up_and {R S : Assn} (a : Up R) (b : Up S) : Up (fun h => R h ∧ S h) := fun h k l ⟨x, y⟩ => ⟨a h k l x, b h k l y⟩
end
end Go.GL
