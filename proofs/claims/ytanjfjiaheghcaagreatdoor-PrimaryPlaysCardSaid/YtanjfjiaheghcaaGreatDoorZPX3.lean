/- Contracts of functions of the given program, and plain laws: parts of the proofs of laws. -/
import Derived.Test.YtanjfjiaheghcaaGreatDoorZPX2
import Derived.ProofKit
import Derived.OpenShut
import Derived.ShutString
import Derived.ChangeOld
import Derived.Below
import Derived.Carry
import Derived.Deep.Slices
import Derived.Laws.Externs
import Derived.Stop.Asserts
/- Small steps of a walk. -/
namespace Go.GL
open Go
section
variable {G : Ctx} {N : Nat} {env : Env} {L : List Assn} {k : Kont} {ops : Array Oper} {rest : List Oper} {o : Oper}
theorem seqK.exit {y : Code} {i : Nat} (h : k (.exit i) env L) : seqK G N y k (.exit i) env L := h
theorem seqK.ret {y : Code} (h : k .ret env L) : seqK G N y k .ret env L := h
theorem blockK.hit {id i : Nat} (hb : Nat.beq i id = true) (h : k .normal env L) : blockK id k (.exit i) env L := by simp only [blockK, hb]; exact h
theorem blockK.miss {id i : Nat} (hb : Nat.beq i id = false) (h : k (.exit i) env L) : blockK id k (.exit i) env L := by simp only [blockK, hb]; exact h
theorem blockK.normal {id : Nat} (h : k .normal env L) : blockK id k .normal env L := h
theorem blockK.ret {id : Nat} (h : k .ret env L) : blockK id k .ret env L := h
theorem loopK.exit {n : Env → List Assn → Prop} {i : Nat} (h : k (.exit i) env L) : loopK n k (.exit i) env L := h
theorem loopK.ret {n : Env → List Assn → Prop} (h : k .ret env L) : loopK n k .ret env L := h
theorem loopK.go {n : Env → List Assn → Prop} (h : n env L) : loopK n k .normal env L := h
theorem WC.condT {c : Operand} {x y : Code} (hc : rd none env c = some (none, .bool true)) (h : WC G N x env L k) : WC G N (.cond c x y) env L k := .cond hc (fun _ => h) (fun e => by cases e)
theorem WC.condF {c : Operand} {x y : Code} (hc : rd none env c = some (none, .bool false)) (h : WC G N y env L k) : WC G N (.cond c x y) env L k := .cond hc (fun e => by cases e) (fun _ => h)
theorem WL.guardT {j t : Nat} {want : Bool} {oj : Oper} (hg : o.guard = some (j, want)) (hj : ops[j]? = some oj) (ht : oj.dst = some t) (hq : gdOf env t want = some true) (h : OP G N o env L (fun e M => WL G N ops rest e M k)) : WL G N ops (o :: rest) env L k := .mk fun a w ha hs => by
  have hw := gdOf_ok ha hq hj ht hg
  unfold wpList
  rw [hw, if_pos rfl]
  exact .inl (wp_oper_mono (fun a w ⟨e, M, x, y, z⟩ => z a w x y) (fun _ _ _ h => h.elim) (h a w ha hs))
theorem WL.guardF {j t d : Nat} {want : Bool} {oj : Oper} (hg : o.guard = some (j, want)) (hj : ops[j]? = some oj) (ht : oj.dst = some t) (hq : gdOf env t want = some false) (hd : o.dst = some d) (hN : Nat.blt d N = true) (h : WL G N ops rest ((d, .val undef) :: env) L k) : WL G N ops (o :: rest) env L k := .mk fun a w ha hs => by
  have hw := gdOf_ok ha hq hj ht hg
  unfold wpList
  rw [hw, if_neg (by simp), hd]
  exact h _ w (ha.put hN _) hs
section
variable {post : Env → List Assn → Prop} {d : Nat} {nw : Bool} {c : Option Prop} {p : Prop} [Decidable p]
theorem OP.decT (he : ev G.T nw none env o.op = some (c, .bool (decide p))) (hc : Holds c) (hp : p) (hd : o.dst = some d) (hN : Nat.blt d N = true) (h : post ((d, .val (.bool true)) :: env) L) : OP G N o env L post :=
  .pureEq he hc (by simp [hp]) hd hN h
theorem OP.decF (he : ev G.T nw none env o.op = some (c, .bool (decide p))) (hc : Holds c) (hp : ¬ p) (hd : o.dst = some d) (hN : Nat.blt d N = true) (h : post ((d, .val (.bool false)) :: env) L) : OP G N o env L post :=
  .pureEq he hc (by simp [hp]) hd hN h
theorem OP.decNT (he : ev G.T nw none env o.op = some (c, .bool (!decide p))) (hc : Holds c) (hp : ¬ p) (hd : o.dst = some d) (hN : Nat.blt d N = true) (h : post ((d, .val (.bool true)) :: env) L) : OP G N o env L post :=
  .pureEq he hc (by simp [hp]) hd hN h
theorem OP.decNF (he : ev G.T nw none env o.op = some (c, .bool (!decide p))) (hc : Holds c) (hp : p) (hd : o.dst = some d) (hN : Nat.blt d N = true) (h : post ((d, .val (.bool false)) :: env) L) : OP G N o env L post :=
  .pureEq he hc (by simp [hp]) hd hN h
end
section
variable {post : Env → List Assn → Prop} {d : Nat} {x y z : Operand} {v : Value}
theorem OP.pickT (ho : o.op = .pick x y z) (hx : rd none env x = some (none, .bool true)) (hv : rd none env y = some (none, v)) (hd : o.dst = some d) (hN : Nat.blt d N = true) (h : post ((d, .val v) :: env) L) : OP G N o env L post :=
  .run (fun a w ha _ => by rw [execOp, ho]; simp [rd_plain hx ha, rd_plain hv ha, asBool]) hd hN h
theorem OP.pickF (ho : o.op = .pick x y z) (hx : rd none env x = some (none, .bool false)) (hv : rd none env z = some (none, v)) (hd : o.dst = some d) (hN : Nat.blt d N = true) (h : post ((d, .val v) :: env) L) : OP G N o env L post :=
  .run (fun a w ha _ => by rw [execOp, ho]; simp [rd_plain hx ha, rd_plain hv ha, asBool]) hd hN h
end
/-- What follows from the memory alone. -/
theorem WC.fact {c : Code} {p : Prop} (e : Ent L (fun _ => p)) (h : p → WC G N c env L k) : WC G N c env L k := .mk fun a w ha hs => h (e _ hs) a w ha hs
theorem WL.fact {p : Prop} (e : Ent L (fun _ => p)) (h : p → WL G N ops rest env L k) : WL G N ops rest env L k := .mk fun a w ha hs => h (e _ hs) a w ha hs
theorem OP.fact {p : Prop} {post : Env → List Assn → Prop} (e : Ent L (fun _ => p)) (h : p → OP G N o env L post) : OP G N o env L post := .mk fun a w ha hs => h (e _ hs) a w ha hs
/-- The two branches of a test meet again. -/
theorem WC.meet {x y : Code} (k' : Env → List Assn → Prop) (hx : WC G N x env L (fun e E M => match e with | .normal => k' E M | e => k e E M)) (hy : ∀ E M, k' E M → WC G N y E M k) : WC G N (.seq x y) env L k :=
  .seq (hx.mono (fun e E M h => by cases e <;> first | exact hy _ _ h | exact h))
theorem ret1 {p : Value → List Assn → Prop} {t : Nat} {v : Value} (h1 : Env.get env t = some (.val v)) (h2 : p v L) : retK G [.tmp t] p .ret env L := ⟨[v], ⟨v, [], rfl, h1, rfl⟩, h2⟩
theorem ret0n {p : Value → List Assn → Prop} (h2 : p (.tuple #[]) L) : retK G [] p .normal env L := ⟨[], rfl, h2⟩
theorem ret2 {p : Value → List Assn → Prop} {t u : Nat} {v x : Value} (h1 : Env.get env t = some (.val v)) (h2 : Env.get env u = some (.val x)) (h : p (.tuple #[v, x]) L) : retK G [.tmp t, .tmp u] p .ret env L :=
  ⟨[v, x], ⟨v, [x], rfl, h1, x, [], rfl, h2, rfl⟩, h⟩
theorem ret3 {p : Value → List Assn → Prop} {t u s : Nat} {v x y : Value} (h1 : Env.get env t = some (.val v)) (h2 : Env.get env u = some (.val x)) (h3 : Env.get env s = some (.val y)) (h : p (.tuple #[v, x, y]) L) : retK G [.tmp t, .tmp u, .tmp s] p .ret env L :=
  ⟨[v, x, y], ⟨v, [x, y], rfl, h1, x, [y], rfl, h2, y, [], rfl, h3, rfl⟩, h⟩
/-- an element of a slice of one-cell elements, under a reading of it -/
theorem Ent.elem {a : Option Addr} {n size i b off : Nat} {cs : List Value} {v : Value} (hr : Ent L (readS a n size cs)) (ha : a = some ⟨b, off, none⟩) (hv : cs[i]? = some v) : Ent L (cellAt b (off + i) v) := fun h s => by
  obtain ⟨e, ⟨rfl, _⟩ | ⟨b', off', e', c, T, fr, hb, hc⟩⟩ := hr h s
  · cases ha
  · rw [ha] at e'; cases e'
    exact ⟨c, T, fr, hb, hc i v hv⟩
theorem Ent.elems {a : Option Addr} {n size i b off : Nat} {cs l : List Value} (hr : Ent L (readS a n size cs)) (ha : a = some ⟨b, off, none⟩) (hl : l = (cs.drop i).take l.length) : Ent L (cellsAt b (off + i) l) := fun h s => by
  obtain ⟨e, ⟨rfl, _⟩ | ⟨b', off', e', c, T, fr, hb, hc⟩⟩ := hr h s
  · cases ha
  · rw [ha] at e'; cases e'
    refine ⟨c, T, fr, hb, fun j v hj => ?_⟩
    have : cs[i + j]? = some v := by
      rw [hl, List.getElem?_take] at hj
      split at hj
      · simpa using hj
      · cases hj
    have := hc (i + j) v this
    rwa [← Nat.add_assoc] at this
/-- a slice with an element has an array -/
theorem Ent.some {a : Option Addr} {n size : Nat} {cs : List Value} (hr : Ent L (readS a n size cs)) (hn : 0 < n) : Ent L (fun _ => ∃ b off, a = some ⟨b, off, none⟩) := fun h s => by
  obtain ⟨_, ⟨_, e⟩ | ⟨b, off, e, _⟩⟩ := hr h s
  · omega
  · exact ⟨b, off, e⟩
theorem Ent.len {a : Option Addr} {n size : Nat} {cs : List Value} (hr : Ent L (readS a n size cs)) : Ent L (fun _ => cs.length = n * size) := fun h s => (hr h s).1
theorem cellsAt_sub {b off i : Nat} {l l' : List Value} {h : Hp} (x : cellsAt b off l h) (e : l' = (l.drop i).take l'.length) : cellsAt b (off + i) l' h := by
  obtain ⟨c, T, fr, hb, hc⟩ := x
  refine ⟨c, T, fr, hb, fun j v hj => ?_⟩
  have : l[i + j]? = Option.some v := by
    rw [e, List.getElem?_take] at hj
    split at hj
    · simpa using hj
    · cases hj
  have := hc (i + j) v this
  rwa [← Nat.add_assoc] at this
theorem cellsAt_one {b off i : Nat} {l : List Value} {v : Value} {h : Hp} (x : cellsAt b off l h) (e : l[i]? = Option.some v) : cellAt b (off + i) v h := by
  obtain ⟨c, T, fr, hb, hc⟩ := x
  exact ⟨c, T, fr, hb, hc i v e⟩
theorem Ent.sub {b off i : Nat} {l l' : List Value} (x : Ent L (cellsAt b off l)) (e : l' = (l.drop i).take l'.length) : Ent L (cellsAt b (off + i) l') := fun h s => cellsAt_sub (x h s) e
theorem Ent.one {b off i : Nat} {l : List Value} {v : Value} (x : Ent L (cellsAt b off l)) (e : l[i]? = Option.some v) : Ent L (cellAt b (off + i) v) := fun h s => cellsAt_one (x h s) e
theorem Ent.whole {b : Nat} {c : List Value} {T : TypeId} (m : GL.blk b c T ∈ L) : Ent L (cellsAt b 0 c) := Ent.mem m (up_blk b c T) fun h ⟨fr, hb, _⟩ => ⟨_, T, fr, hb, fun i v hi => by simpa using hi⟩
/-- A call that changes nothing that was there, and makes new memory 'E': where 'R' holds. -/
structure RT (G : Ctx) (f : FuncId) (args : List Value) (R : Assn) (p : Value → List Assn → Prop) : Prop where
  enters : Enters G.P f
  calls : ∀ M w, Ent M R → Sat M w → Calls G.P f args.toArray w (fun e w' => ∃ v E, e = .returned v ∧ p v E ∧ Sat (E ++ M) w')
theorem RT.enter {f : FuncId} {fn : Func} {c : Code} {vs : List Value} {rs : List ResultVar} {R : Assn} {p : Value → List Assn → Prop} (hf : G.P.funcs[f]? = Option.some fn) (hb : fn.body = Option.some c) (hname : (fn.name == "runtime.NumGoroutine") = false) (hr : fn.results = rs.toArray) (hn : fn.ntmps = N)
    (hv : Nat.ble vs.length N = true) (h : ∀ A, Up A → (∀ k, A k → R k) → WC G N c (args0 0 vs) [A] (retK G rs (fun v M => ∃ E, p v E ∧ Imp M (E ++ [A])))) : RT G f vs R p :=
  ⟨⟨fn, c, hf, hname, hb⟩, fun M w he hs => (body_calls hf hb hr hn hv (h (stars M) (up_stars M) he) w (stars_one.1 hs)).mono fun _ _ ⟨v, _, e, ⟨E, h1, h2⟩, s⟩ => ⟨v, E, e, h1, stars_app_one.2 (h2 _ s)⟩⟩
theorem RO.rt {f : FuncId} {args : List Value} {R : Assn} {v : Value} (h : RO G f args R v) : RT G f args R (fun v' E => v' = v ∧ E = []) :=
  ⟨h.enters, fun _ w he hs => (h.calls w (he _ hs)).mono fun _ _ ⟨e, x⟩ => ⟨v, [], e, ⟨rfl, rfl⟩, hs.ext x⟩⟩
theorem RT.triple {f : FuncId} {args : List Value} {R : Assn} {p : Value → List Assn → Prop} (h : RT G f args R p) {M : List Assn} (he : Ent M R) : Triple G f args M (fun v M' => ∃ E, p v E ∧ M' = E ++ M) :=
  ⟨h.enters, fun F w hs => (h.calls (M ++ F) w (fun k s => he k (stars_append_left s)) hs).mono fun _ _ ⟨v, E, e, hp, s⟩ => ⟨v, E ++ M, e, ⟨E, hp, rfl⟩, by rw [List.append_assoc]; exact s⟩⟩
theorem OP.callRT {post : Env → List Assn → Prop} {d : Nat} {f : FuncId} {xs : List Operand} {ats : Array TypeId} {vs : List Value} {R : Assn} {p : Value → List Assn → Prop} (ho : o.op = .call ⟨.value (.func f), xs.toArray, ats⟩) (hv : rdAll env xs = Option.some vs) (ht : RT G f vs R p) (he : Ent L R)
    (hd : o.dst = Option.some d) (hN : Nat.blt d N = true) (h : ∀ v E, p v E → post ((d, .val v) :: env) (E ++ L)) : OP G N o env L post :=
  .call (F := []) ho hv (ht.triple he) (by rw [List.append_nil]; exact Imp.refl _) hd hN (fun v M ⟨E, e1, e2⟩ => by rw [List.append_nil, e2]; exact h v E e1)
theorem Ent.ownLe {a : Option Addr} {n cap size : Nat} {T : TypeId} {cs : List Value} (m : GL.ownS a n cap T size cs ∈ L) : Ent L (fun _ => n ≤ cap) := fun _ s => (stars_mem m (up_ownS _ _ _ _ _ _) s).2.1
theorem up_and {R S : Assn} (a : Up R) (b : Up S) : Up (fun h => R h ∧ S h) := fun h k l ⟨x, y⟩ => ⟨a h k l x, b h k l y⟩
end
end Go.GL
/- The arguments of a law, as cells: from what they read as. And the step from a call that only reads to a law's row. -/
namespace Go.GL
open Go Go.ChangeShapes Go.WideShapes Go.RowKit Go.Deep

/-- What one cell may hold. -/
inductive Lf
  | int (k : IntKind)
  | bool
  | str
def Lf.ok : Lf → Value → Prop
  | .int k, v => ∃ n, v = .int k n ∧ (Lit.int k n).wf = true
  | .bool, v => ∃ b, v = .bool b
  | .str, v => ∃ s, v = .string s ∧ s.size ≤ maxLen
def LfsOk : List Lf → List Value → Prop
  | [], [] => True
  | l :: r, v :: s => l.ok v ∧ LfsOk r s
  | _, _ => False
theorem LfsOk.len : ∀ {l : List Lf} {c : List Value}, LfsOk l c → c.length = l.length
  | [], [], _ => rfl
  | _ :: _, _ :: _, h => by simp [LfsOk.len h.2]
  | [], _ :: _, h => h.elim
  | _ :: _, [], h => h.elim
theorem LfsOk.app : ∀ {l m : List Lf} {c d : List Value}, LfsOk l c → LfsOk m d → LfsOk (l ++ m) (c ++ d)
  | [], _, [], _, _, h => h
  | _ :: _, _, _ :: _, _, h, k => ⟨h.1, LfsOk.app h.2 k⟩
  | [], _, _ :: _, _, h, _ => h.elim
  | _ :: _, _, [], _, h, _ => h.elim
theorem LfsOk.nil {x : List Value} (h : LfsOk [] x) : x = [] := by
  cases x with
  | nil => rfl
  | cons => exact h.elim
theorem LfsOk.int {k : IntKind} {r : List Lf} {x : List Value} (h : LfsOk (.int k :: r) x) : ∃ n s, x = .int k n :: s ∧ (Lit.int k n).wf = true ∧ LfsOk r s := by
  cases x with
  | nil => exact h.elim
  | cons v s => obtain ⟨⟨n, e, w⟩, z⟩ := h; exact ⟨n, s, by rw [e], w, z⟩
theorem LfsOk.bool {r : List Lf} {x : List Value} (h : LfsOk (.bool :: r) x) : ∃ b s, x = .bool b :: s ∧ LfsOk r s := by
  cases x with
  | nil => exact h.elim
  | cons v s => obtain ⟨⟨n, e⟩, z⟩ := h; exact ⟨n, s, by rw [e], z⟩
theorem LfsOk.str {r : List Lf} {x : List Value} (h : LfsOk (.str :: r) x) : ∃ b s, x = .string b :: s ∧ b.size ≤ maxLen ∧ LfsOk r s := by
  cases x with
  | nil => exact h.elim
  | cons v s => obtain ⟨⟨n, e, w⟩, z⟩ := h; exact ⟨n, s, by rw [e], w, z⟩
def leafsF (P : Program) (f : TypeId → Option (List Lf)) : Nat → List Field → Option (List Lf)
  | _, [] => some []
  | off, x :: r => match f x.type with
    | some a => if x.offset = off ∧ P.cellsOf x.type = a.length then (leafsF P f (off + a.length) r).map (a ++ ·) else none
    | none => none
/-- The cells of a type without slices and pointers. -/
def leafs (P : Program) : Nat → TypeId → Option (List Lf)
  | 0, _ => none
  | n + 1, t => match P.underlying t with
    | some (.int k) => some [.int k]
    | some .bool => some [.bool]
    | some .string => some [.str]
    | some (.struct fs) => match leafsF P (leafs P n) 0 fs.toList with
      | some l => if P.cellsOf t = l.length then some l else none
      | none => none
    | _ => none
section
variable {H : Type} {enc : TypeId × Value → H} {P : Program} {w : World} {base : Nat} {spare : Nat → Bool} {held : Bool}
theorem leafsF_ok {f : TypeId → Option (List Lf)} {q : TypeId → List Value → Prop} (hq : ∀ t a c, f t = some a → q t c → LfsOk a c) {cs : List Value} : ∀ (fs : List Field) (off : Nat) (l : List Lf), leafsF P f off fs = some l →
    (∀ x ∈ fs, q x.type ((cs.drop x.offset).take (P.cellsOf x.type))) → cs.length = off + l.length → LfsOk l (cs.drop off)
  | [], off, l, h, _, hl => by
    simp only [leafsF, Option.some.injEq] at h
    subst h
    rw [List.drop_eq_nil_of_le (by simp at hl; omega)]
    trivial
  | x :: r, off, l, h, hx, hl => by
    simp only [leafsF] at h
    split at h
    · rename_i a ha
      split at h
      · rename_i hc
        obtain ⟨m, hm, rfl⟩ := Option.map_eq_some_iff.1 h
        have h1 := hq _ _ _ ha (hx x List.mem_cons_self)
        rw [hc.1, hc.2] at h1
        have h2 := leafsF_ok hq r (off + a.length) m hm (fun y hy => hx y (List.mem_cons_of_mem _ hy)) (by rw [hl, List.length_append]; omega)
        have h3 := h1.app h2
        rw [← List.drop_drop, List.take_append_drop] at h3
        exact h3
      · cases h
    · cases h
theorem leafs_ok : ∀ (n : Nat) (t : TypeId) (l : List Lf) (cs : List Value), leafs P n t = some l → (∃ fuel x, DataW.trod enc P w base spare held fuel t cs = some x) → LfsOk l cs
  | 0, _, _, _, h, _ => by cases h
  | n + 1, t, l, cs, h, ⟨fuel, x, hx⟩ => by
    simp only [leafs] at h
    split at h
    · rename_i k hk
      cases h
      obtain ⟨z, rfl, _, hz⟩ := DataW.trod_int hk hx
      exact ⟨⟨z, rfl, hz⟩, trivial⟩
    · rename_i hk
      cases h
      obtain ⟨z, rfl, _⟩ := DataW.trod_bool hk hx
      exact ⟨⟨z, rfl⟩, trivial⟩
    · rename_i hk
      cases h
      obtain ⟨z, rfl, _, hz⟩ := DataW.trod_string hk hx
      exact ⟨⟨z, rfl, hz⟩, trivial⟩
    · rename_i fs hk
      split at h
      · rename_i l' hl'
        split at h
        · rename_i hc
          cases h
          obtain ⟨xs, m, _, _, hlen, hsz, hf⟩ := DataW.trod_struct hk hx
          have := leafsF_ok (P := P) (f := leafs P n) (q := fun t cs => ∃ fuel x, DataW.trod enc P w base spare held fuel t cs = some x) (fun t a c ha hy => leafs_ok n t a c ha hy) (cs := cs) fs.toList 0 l hl' (fun y hy => by
            obtain ⟨i, hi, rfl⟩ := List.getElem_of_mem hy
            have hi' : i < fs.size := by simpa using hi
            have := hf i fs[i] (by simp [hi'])
            rw [List.getElem?_eq_getElem (by omega)] at this
            exact ⟨m, _, by simpa using this⟩) (by omega)
          simpa using this
        · cases h
      · cases h
    · cases h

theorem cells?_row {a : Addr} {n : Nat} {cs : List Value} (h : w.cells? base a n = some cs) : cs.length = n ∧ ∀ i v, cs[i]? = some v → w.cell? (a.add i) = some v := by
  unfold World.cells? at h
  split at h
  · have hl := mapM_some_length h
    have hl : cs.length = n := by simpa using hl
    refine ⟨hl, fun i v hi => ?_⟩
    have hlt : i < n := by rw [← hl]; exact (List.getElem?_eq_some_iff.1 hi).1
    have := mapM_some_get h i i (by simp [hlt])
    rw [this, hi]
  · cases h

theorem has_block {r : Reach} {b0 : Nat} {a : Addr} {e : TypeId} {n : Nat} (h : w.has P r b0 a e n) : ∃ b off, a = ⟨b, off, none⟩ ∧ ∃ (c : Array Value) (T : TypeId) (fr : Nat × Nat), w.heap[b]? = some (.cells c T fr) := by
  obtain ⟨_, hs, row, cells, hsh, _⟩ := h
  obtain ⟨b, off, spot⟩ := a
  cases hs
  refine ⟨b, off, rfl, ?_⟩
  unfold World.shape? at hsh
  split at hsh
  · rename_i c T fr hh; exact ⟨c, T, fr, hh⟩
  · cases hsh
/-- A slice whose elements are such. -/
theorem open_row {n : Nat} {t e : TypeId} {v : Value} {d : DataW H} {p : List MemPlace} {r : Reach} {b0 : Nat} {l : List Lf} (hs : P.underlying t = some (.slice e)) (hl : leafs P n e = some l) (hc : P.cellsOf e = l.length)
    (hv : Value.okWide P w r b0 t v) (h : DataW.Trod enc P w base spare held t v d p) :
    ∃ (a : Option Addr) (len cap : Nat) (rows : List (List Value)), v = .slice a len cap ∧ rows.length = len ∧ len ≤ cap ∧ cap ≤ maxLen ∧ (∀ x ∈ rows, LfsOk l x) ∧ readS a len l.length rows.flatten (hpOf w) := by
  obtain ⟨a, len, cap, rfl⟩ := okWide_slice hs hv
  obtain ⟨fuel, hf⟩ := h
  rcases open_slice hs hf with ⟨hcs, _⟩ | ⟨x, l', c', m, n', D, Pl, hcs, _, hle, hmax, hm, _, hel⟩
  · simp [Value.cells] at hcs
    obtain ⟨rfl, rfl, rfl⟩ := hcs
    exact ⟨none, 0, 0, [], rfl, rfl, Nat.le_refl _, Nat.zero_le _, by simp, by simp, .inl ⟨rfl, rfl⟩⟩
  · simp [Value.cells] at hcs
    obtain ⟨rfl, rfl, rfl⟩ := hcs
    have hhas : w.has P r b0 x e cap := by
      simp only [Value.okWide, hs, Cell.okWide, Cell.ok] at hv
      exact hv.2.2
    obtain ⟨b, off, rfl, c, T, fr, hb⟩ := has_block hhas
    have hlm : len ≤ m := by rw [hm]; split <;> omega
    have hch : ∃ f : Nat → List Value, ∀ i, i < len → w.cells? base ((⟨b, off, none⟩ : Addr).add (i * P.cellsOf e)) (P.cellsOf e) = some (f i) ∧ LfsOk l (f i) := by
      refine choose_lt (α := List Value) (p := fun i c => w.cells? base ((⟨b, off, none⟩ : Addr).add (i * P.cellsOf e)) (P.cellsOf e) = some c ∧ LfsOk l c) fun i hi => ?_
      obtain ⟨cs', h1, h2⟩ := hel i (by omega)
      exact ⟨cs', h1, leafs_ok n e l cs' hl ⟨n', _, h2⟩⟩
    obtain ⟨f, hf'⟩ := hch
    have hrows : ∀ x ∈ (List.range len).map f, LfsOk l x := by
      intro x hx
      obtain ⟨i, hi, rfl⟩ := List.mem_map.1 hx
      exact (hf' i (List.mem_range.1 hi)).2
    have hlen : ∀ (rs : List (List Value)), (∀ x ∈ rs, LfsOk l x) → rs.flatten.length = rs.length * l.length := by
      intro rs
      induction rs with
      | nil => simp
      | cons x rs ih =>
        intro hx
        rw [List.flatten_cons, List.length_append, ih (fun y hy => hx y (List.mem_cons_of_mem _ hy)), (hx x List.mem_cons_self).len, List.length_cons, Nat.succ_mul]
        omega
    refine ⟨_, len, cap, (List.range len).map f, rfl, by simp, hle, hmax, hrows, by rw [hlen _ hrows]; simp, .inr ⟨b, off, rfl, c, T, fr, hpOf_obj.2 hb, ?_⟩⟩
    have key : ∀ (k : Nat), k ≤ len → ∀ j v, ((List.range k).map f).flatten[j]? = some v → c[off + j]? = some v := by
      intro k
      induction k with
      | zero => intro _ j v hj; simp at hj
      | succ k ih =>
        intro hk j v hj
        rw [List.range_succ, List.map_append, List.flatten_append] at hj
        by_cases hlt : j < ((List.range k).map f).flatten.length
        · rw [List.getElem?_append_left hlt] at hj
          exact ih (by omega) j v hj
        · rw [List.getElem?_append_right (by omega)] at hj
          have hfl := hlen ((List.range k).map f) (fun x hx => by
            obtain ⟨i, hi, rfl⟩ := List.mem_map.1 hx
            exact (hf' i (by have := List.mem_range.1 hi; omega)).2)
          simp only [List.length_map, List.length_range] at hfl
          simp only [List.map_cons, List.map_nil, List.flatten_cons, List.flatten_nil, List.append_nil] at hj
          have h2 := (cells?_row (hf' k (by omega)).1).2 _ _ hj
          rw [hfl] at h2 hlt
          rw [add_add, hc] at h2
          have e : k * l.length + (j - k * l.length) = j := by omega
          rw [e] at h2
          unfold World.cell? at h2
          have e2 : ((⟨b, off, none⟩ : Addr).add j).block = b ∧ ((⟨b, off, none⟩ : Addr).add j).off = off + j ∧ ((⟨b, off, none⟩ : Addr).add j).spot = none := by
            unfold Addr.add
            split
            · rename_i h0; have : j = 0 := by simpa using h0
              subst this; exact ⟨rfl, rfl, rfl⟩
            · exact ⟨rfl, rfl, rfl⟩
          rw [e2.1, hb, e2.2.1, e2.2.2] at h2
          simpa using h2
    exact key len (Nat.le_refl _)
end
theorem rows_enc {α : Type} {enc : α → List Value} {q : α → Prop} : ∀ {rows : List (List Value)}, (∀ x ∈ rows, ∃ o, x = enc o ∧ q o) → ∃ l : List α, rows.flatten = l.flatMap enc ∧ l.length = rows.length ∧ ∀ o ∈ l, q o
  | [], _ => ⟨[], rfl, rfl, fun _ h => nomatch h⟩
  | x :: r, h => by
    obtain ⟨o, rfl, ho⟩ := h x List.mem_cons_self
    obtain ⟨l, h1, h2, h3⟩ := rows_enc (rows := r) (fun y hy => h y (List.mem_cons_of_mem _ hy))
    refine ⟨o :: l, by simp [h1], by simp [h2], fun z hz => ?_⟩
    rcases List.mem_cons.1 hz with rfl | hz
    · exact ho
    · exact h3 z hz
theorem wf_u8 {n : Int} (h : (Lit.int .u8 n).wf = true) : 0 ≤ n ∧ n ≤ 255 := by
  simp [Lit.wf, IntKind.min, IntKind.max, IntKind.signed, IntKind.bits] at h
  omega
theorem wf_u64 {n : Int} (h : (Lit.int .u64 n).wf = true) : 0 ≤ n ∧ n ≤ 18446744073709551615 := by
  simp [Lit.wf, IntKind.min, IntKind.max, IntKind.signed, IntKind.bits] at h
  omega
/-- Nothing that was there has turned. -/
theorem Ext.keptBut {w w' : World} (h : Ext w w') (may : MemPlace → Prop) : w.keptBut w' may := by
  refine ⟨h.os.1, h.os.2, fun i hi => ?_⟩
  rw [h.block hi]
  split <;> simp_all
theorem Ext.same {w w' : World} (h : Ext w w') {p : MemPlace} (hp : p.block < w.heap.size) : w.sameAt w' p := by
  cases p with
  | cell b o => exact World.cell?_of_block (w := w) (h.block hp)
  | map b => exact h.block hp
/-- An argument reads as it did. -/
theorem Ext.trod {H : Type} {enc : TypeId × Value → H} {P : Program} {t : TypeId} (hl : laidOutB P = true) (hr : P.readableRec t = true) (hrow : t < P.types.size) {W W' : World} {v : Value} {d : DataW H} {ps : List MemPlace}
    (h : DataW.Trod enc P W 0 (fun _ => true) true t v d ps) (hb : Ext W W') :
    DataW.Trod enc P W' 0 (fun b => decide (b < W.heap.size)) true t v d ps := by
  have hlt : ∀ x ∈ ps, x.block < W.heap.size := by obtain ⟨m, hm⟩ := h; exact DataW.trod_lt m _ _ _ hm
  exact WideElems.Trod_stays hl hr hrow h (fun x hx => hb.same (hlt x hx)) (fun x hx => by simpa using hlt x hx)
end Go.GL
/- Comparing structs; a quiet operation of a drawn region by its own run. -/
namespace Go.GL
open Go
/-- one field of one cell, of a plain type -/
def eqF (T : Tab) (f : Field) (xs ys : List Value) : Option Bool :=
  match T.find f.type with
  | some ⟨.int _, _, _, _, false, _⟩ => match xs[f.offset]?, ys[f.offset]? with
    | some (.int .i64 a), some (.int .i64 b) => some (decide (a = b))
    | some (.int .u64 a), some (.int .u64 b) => some (decide (a = b))
    | some (.int .u32 a), some (.int .u32 b) => some (decide (a = b))
    | some (.int .u8 a), some (.int .u8 b) => some (decide (a = b))
    | _, _ => none
  | some ⟨.string, _, _, _, false, _⟩ => match xs[f.offset]?, ys[f.offset]? with
    | some (.string a), some (.string b) => some (decide (a = b))
    | _, _ => none
  | some ⟨.bool, _, _, _, false, _⟩ => match xs[f.offset]?, ys[f.offset]? with
    | some (.bool a), some (.bool b) => some (a == b)
    | _, _ => none
  | _ => none
def eqFs (T : Tab) (xs ys : List Value) : List Field → Option Bool
  | [] => some true
  | f :: r => match eqF T f xs ys, eqFs T xs ys r with
    | some a, some b => some (a && b)
    | _, _ => none
section
variable {P : Program} {t : TypeId} {w : World} (d : Nat)
theorem equalIn_int {k0 : IntKind} (h : P.underlying t = some (.int k0)) (k : IntKind) (a b : Int) : (Op.equalIn (d + 1) t (.int k a) (.int k b)).run P w = .ok (decide (a = b)) w := by
  simp [Op.equalIn, run_underlying h]; rfl
theorem equalIn_str (h : P.underlying t = some .string) (a b : ByteArray) : (Op.equalIn (d + 1) t (.string a) (.string b)).run P w = .ok (decide (a = b)) w := by
  have e : (a == b) = decide (a = b) := by
    cases a with | mk x => cases b with | mk y =>
      have : ((⟨x⟩ : ByteArray) == ⟨y⟩) = (x == y) := rfl
      rw [this, Bool.eq_iff_iff, beq_iff_eq, decide_eq_true_eq]
      exact ⟨fun h => by rw [h], fun h => by cases h; rfl⟩
  simp [Op.equalIn, run_underlying h, e]
theorem run_part (f : Field) {i : TI} (e : TIOk P f.type i) (ha : i.agg = false) {xs : List Value} {v : Value} (hx : xs[f.offset]? = some v) : (part f.type xs.toArray f.offset).run P w = .ok v w := by
  have ha' : (isAgg f.type).run P w = .ok false w := by rw [run_isAgg e, ha]
  simp [part, ha', hx]
end
theorem eqF_ok {P : Program} {T : Tab} (hT : T.ok P) {f : Field} {xs ys : List Value} {b : Bool} (d : Nat) (h : eqF T f xs ys = some b) (w : World) :
    ∃ x y, (part f.type xs.toArray f.offset).run P w = .ok x w ∧ (part f.type ys.toArray f.offset).run P w = .ok y w ∧ (Op.equalIn (d + 1) f.type x y).run P w = .ok b w := by
  unfold eqF at h
  split at h
  · rename_i ht
    have e := Tab.find_ok hT ht
    split at h <;> first | (cases h; done) | (rename_i hx hy; cases h; exact ⟨_, _, run_part f e rfl hx, run_part f e rfl hy, equalIn_int d e.desc _ _ _⟩)
  · rename_i ht
    have e := Tab.find_ok hT ht
    split at h <;> first | (cases h; done) | (rename_i hx hy; cases h; exact ⟨_, _, run_part f e rfl hx, run_part f e rfl hy, equalIn_str d e.desc _ _⟩)
  · rename_i ht
    have e := Tab.find_ok hT ht
    split at h <;> first | (cases h; done) | (rename_i hx hy; cases h; exact ⟨_, _, run_part f e rfl hx, run_part f e rfl hy, equalIn_bool d e.desc _ _⟩)
  · cases h
theorem run_eqAgg {P : Program} {T : Tab} (hT : T.ok P) {t : TypeId} {fs : Array Field} {ti : TI} {xs ys : List Value} {b : Bool} (d : Nat) (ht : T.find t = some ti) (hdesc : ti.desc = .struct fs) (hst : P.stoodInHeld t = false) (hn : (fs.toList.all fun f => f.name != "_") = true) (hb : eqFs T xs ys fs.toList = some b) (w : World) :
    (Op.equalIn (d + 2) t (.agg xs.toArray) (.agg ys.toArray)).run P w = .ok b w := by
  have e := Tab.find_ok hT ht
  have hd := e.desc
  rw [hdesc] at hd
  unfold Op.equalIn
  simp only [Sem.run_bind, run_underlying hd, Result.andThen_ok, run_program, hst, Bool.false_eq_true, if_false]
  rw [← Array.forIn_toList]
  generalize fs.toList = l at *
  induction l generalizing b with
  | nil =>
    simp only [eqFs, Option.some.injEq] at hb
    subst hb
    simp
  | cons f r ih =>
    simp only [eqFs] at hb
    split at hb
    · rename_i a a' ha ha'
      simp only [Option.some.injEq] at hb
      subst hb
      obtain ⟨x, y, h1, h2, h3⟩ := eqF_ok hT d ha w
      simp only [List.all_cons, Bool.and_eq_true, bne_iff_ne, ne_eq] at hn
      simp only [List.forIn_cons, ne_eq, hn.1, not_false_eq_true, if_true, Sem.run_bind, h1, h2, h3, Result.andThen_ok]
      cases a with
      | false => simp
      | true =>
        have := ih hn.2 ha'
        simpa using this
    · cases hb
section
variable {G : Ctx} {N : Nat} {env : Env} {L S : List Assn} {k : Kont} {n : Nat} {fuel : Nat} {listed : Array Bool} {hd : Bool} {l : List Oper} {o : Oper} {post : Env → List Assn → Prop} {d : Nat}
/-- what a comparison of structs comes to -/
structure EqAgg (G : Ctx) (env : Env) (op : Op) (b : Bool) : Prop where
  run : ∀ N a w (o : Oper), o.op = op → Agree N env a → (execOp a.eval o).run G.P w = .ok (.value (.bool b)) w
theorem EqAgg.neq {t t2 : TypeId} {x y : Operand} {fs : Array Field} {ti : TI} {xs ys : List Value} {b : Bool} (hx : rd none env x = some (none, .agg xs.toArray)) (hy : rd none env y = some (none, .agg ys.toArray))
    (ht : G.T.find t = some ti) (hdesc : ti.desc = .struct fs) (hst : G.P.stoodInHeld t = false) (hgt : G.P.eqGuardType G.P.depth t = false) (hn : (fs.toList.all fun f => f.name != "_") = true) (hb : eqFs G.T xs ys fs.toList = some b) : EqAgg G env (.binOp .neq t x y t2) (!b) := ⟨fun N a w o ho ha => by
  rw [execOp, ho]
  refine val_run ?_
  have h1 : (eqGuard .neq t x y (.agg xs.toArray) (.agg ys.toArray)).run G.P w = .ok () w := by simp [eqGuard, hgt]
  have h2 := bin_ne rfl (run_eqAgg G.ok 9998 ht hdesc hst hn hb w)
  simp only [rd_plain hx ha, rd_plain hy ha, Sem.run_bind, h1, Result.andThen_ok, h2]⟩
theorem EqAgg.eql {t t2 : TypeId} {x y : Operand} {fs : Array Field} {ti : TI} {xs ys : List Value} {b : Bool} (hx : rd none env x = some (none, .agg xs.toArray)) (hy : rd none env y = some (none, .agg ys.toArray))
    (ht : G.T.find t = some ti) (hdesc : ti.desc = .struct fs) (hst : G.P.stoodInHeld t = false) (hgt : G.P.eqGuardType G.P.depth t = false) (hn : (fs.toList.all fun f => f.name != "_") = true) (hb : eqFs G.T xs ys fs.toList = some b) : EqAgg G env (.binOp .eql t x y t2) b := ⟨fun N a w o ho ha => by
  rw [execOp, ho]
  refine val_run ?_
  have h1 : (eqGuard .eql t x y (.agg xs.toArray) (.agg ys.toArray)).run G.P w = .ok () w := by simp [eqGuard, hgt]
  have h2 := bin_eq rfl (run_eqAgg G.ok 9998 ht hdesc hst hn hb w)
  simp only [rd_plain hx ha, rd_plain hy ha, Sem.run_bind, h1, Result.andThen_ok, h2]⟩
theorem eqF_self {T : Tab} {f : Field} {xs : List Value} {b : Bool} (h : eqF T f xs xs = some b) : b = true := by
  unfold eqF at h
  split at h
  · generalize xs[f.offset]? = o at h
    split at h <;> first | (cases h; done) | skip
    all_goals (cases h; simp_all)
  · generalize xs[f.offset]? = o at h
    split at h <;> first | (cases h; done) | skip
    all_goals (cases h; simp_all)
  · generalize xs[f.offset]? = o at h
    split at h <;> first | (cases h; done) | skip
    all_goals (cases h; simp_all)
  · cases h
theorem eqFs_self {T : Tab} {xs : List Value} : ∀ {fs : List Field} {b : Bool}, eqFs T xs xs fs = some b → b = true
  | [], b, h => by cases h; rfl
  | f :: r, b, h => by
    simp only [eqFs] at h
    split at h
    · rename_i a a' ha ha'
      cases h
      rw [eqF_self ha, eqFs_self ha']; rfl
    · cases h
theorem EqAgg.neqSelf {t t2 : TypeId} {x y : Operand} {fs : Array Field} {ti : TI} {xs : List Value} (hx : rd none env x = some (none, .agg xs.toArray)) (hy : rd none env y = some (none, .agg xs.toArray))
    (ht : G.T.find t = some ti) (hdesc : ti.desc = .struct fs) (hst : G.P.stoodInHeld t = false) (hgt : G.P.eqGuardType G.P.depth t = false) (hn : (fs.toList.all fun f => f.name != "_") = true) (hb : (eqFs G.T xs xs fs.toList).isSome = true) : EqAgg G env (.binOp .neq t x y t2) false := by
  obtain ⟨b, hb⟩ := Option.isSome_iff_exists.1 hb
  have := EqAgg.neq (t2 := t2) hx hy ht hdesc hst hgt hn hb
  rw [eqFs_self hb] at this
  exact this
theorem OP.eqAgg {b : Bool} (e : EqAgg G env o.op b) (hd : o.dst = some d) (hN : Nat.blt d N = true) (h : post ((d, .val (.bool b)) :: env) L) : OP G N o env L post :=
  .run (fun a w ha _ => e.run N a w o rfl ha) hd hN h
theorem WH.eqAgg (i : Nat) {b : Bool} (hi : l.toArray[i]? = some o) (hg : o.guard = none) (hs : Region.noSelect l.toArray = true) (hf : Region.free .any l.toArray listed i = true) (hr : (Region.ready .any l.toArray listed).contains i = true)
    (hk : ∀ c env L, ¬ k (.panic c) env L) (hH : (!hd || Nat.blt i n || phB listed n) = true) (e : EqAgg G env o.op b) (hdst : o.dst = some d) (hN : Nat.blt d N = true)
    (h : WH G N l.toArray n S hd fuel (listed.setIfInBounds i true) ((d, .val (.bool b)) :: env) L k) : WH G N l.toArray n S hd (fuel + 1) listed env L k := .mk fun a w ha hsat hS hcl => by
  have hri : i ∈ Region.ready .any l.toArray listed := by simpa using hr
  refine wpB_pure (R := fun _ => True) hH hi (Region.noSelect_spec hs) (fun c a w => noPanic hk c a w _ _) (fun _ => trivial) fuel a w hcl (Region.free_spec hi hf) hri
    (.inl ⟨by simp [Region.wanted, hg], fun w _ => e.run N a w o rfl ha⟩) hS ?_
  · rw [hdst]; exact h _ w (ha.put hN _) hsat hS (hcl.set hri)
end
end Go.GL
/- Slices cut; bytes. -/
namespace Go.GL
open Go
theorem cutA_none (cap l size : Nat) : cutA none cap l size = none := by unfold cutA; split <;> rfl
theorem readS_cut {a : Option Addr} {n size i cap : Nat} {cs : List Value} {h : Hp} (x : readS a n size cs h) (hi : i ≤ n) (hc : n ≤ cap) : readS (cutA a cap i size) (n - i) size (cs.drop (i * size)) h := by
  obtain ⟨e, ⟨rfl, rfl⟩ | ⟨b, off, rfl, hcell⟩⟩ := x
  · refine ⟨by rw [List.length_drop, e, Nat.sub_mul], .inl ⟨cutA_none _ _ _, by omega⟩⟩
  · refine ⟨by rw [List.length_drop, e, Nat.sub_mul], .inr ?_⟩
    unfold cutA
    split
    · rename_i hci
      have : i = n := by omega
      subst this
      rw [List.drop_eq_nil_of_le (by omega)]
      obtain ⟨c, T, fr, hb, _⟩ := hcell
      exact ⟨b, off, rfl, c, T, fr, hb, fun i v hi => by simp at hi⟩
    · refine ⟨b, off + i * size, by simp [addr_add], ?_⟩
      obtain ⟨c, T, fr, hb, hx⟩ := hcell
      refine ⟨c, T, fr, hb, fun j v hj => ?_⟩
      rw [List.getElem?_drop] at hj
      have := hx _ _ hj
      rwa [← Nat.add_assoc] at this
theorem readS_take {a : Option Addr} {n size m : Nat} {cs : List Value} {h : Hp} (x : readS a n size cs h) (hm : m ≤ n) : readS a m size (cs.take (m * size)) h := by
  have hle : m * size ≤ n * size := Nat.mul_le_mul_right _ hm
  obtain ⟨e, ⟨rfl, rfl⟩ | ⟨b, off, rfl, hcell⟩⟩ := x
  · exact ⟨by rw [List.length_take, e]; omega, .inl ⟨rfl, by omega⟩⟩
  · refine ⟨by rw [List.length_take, e]; omega, .inr ⟨b, off, rfl, ?_⟩⟩
    obtain ⟨c, T, fr, hb, hx⟩ := hcell
    refine ⟨c, T, fr, hb, fun j v hj => ?_⟩
    rw [List.getElem?_take] at hj
    split at hj
    · exact hx _ _ hj
    · cases hj
/-- bytes as a string -/
def ba (l : List UInt8) : ByteArray := ⟨l.toArray⟩
theorem strCells_ba (l : List UInt8) : strCells (ba l) = l.map byteV := by simp [strCells, ba]
theorem ba_size (l : List UInt8) : (ba l).size = l.length := by simp [ba, ByteArray.size]
theorem ba_data (s : ByteArray) : ba s.data.toList = s := by cases s; simp [ba]
/-- a slice of bytes that can be read -/
def Bytes (A : Assn) (l : List UInt8) (v : Value) : Prop := ∃ a n c, v = .slice a n c ∧ n = l.length ∧ n ≤ c ∧ ∀ h, A h → readS a n 1 (l.map byteV) h
end Go.GL
/- make, append(nil, make(..)...), an empty literal; what a slice owns, shortened. -/
namespace Go.GL
open Go
section
variable {G : Ctx} {N : Nat} {env : Env} {L : List Assn} {k : Kont} {ops : Array Oper} {rest : List Oper} {o : Oper}
/-- A guard that was passed over itself. -/
theorem WL.guardU {j t d : Nat} {want : Bool} {oj : Oper} (hg : o.guard = some (j, want)) (hj : ops[j]? = some oj) (ht : oj.dst = some t) (hq : Env.get env t = some (.val (.tuple #[]))) (hd : o.dst = some d) (hN : Nat.blt d N = true) (h : WL G N ops rest ((d, .val undef) :: env) L k) : WL G N ops (o :: rest) env L k := .mk fun a w ha hs => by
  have hw : Region.wanted o (yielded ops a.tmps) = false := by
    have := ha.at_ _ _ hq
    simp only [Slot.fits] at this
    simp only [Region.wanted, hg, yielded, hj, ht, Option.bind_some, this]
    rfl
  unfold wpList
  rw [hw, if_neg (by simp), hd]
  exact h _ w (ha.put hN _) hs
end
section
variable {G : Ctx} {N : Nat} {env : Env} {L : List Assn} {o : Oper} {post : Env → List Assn → Prop} {d : Nat}
theorem OP.newS {n : Nat} {c : List Value} {e size : Nat} (hc : c.length = n * size) (hr : ∀ a w, Agree N env a → Sat L w → ∃ w', (execOp a.eval o).run G.P w = .ok (.value (.slice (some ⟨w.heap.size, 0, none⟩) n n)) w' ∧ w'.os = w.os ∧ w'.output = w.output ∧ w'.heap = w.heap.push (.cells c.toArray e))
    (hd : o.dst = some d) (hN : Nat.blt d N = true) (h : ∀ b, post ((d, .val (.slice (some ⟨b, 0, none⟩) n n)) :: env) (ownS (some ⟨b, 0, none⟩) n n e size c :: L)) : OP G N o env L post := .mk fun a w ha hs => by
  unfold Oper.wp
  obtain ⟨w', r, h1, h2, h3⟩ := hr a w ha hs
  rw [r]
  simp only [Oper.upon, hd]
  have hs' : Sat (blk w.heap.size c e :: L) w' := by
    have := hs.new c e
    unfold Sat at *
    rw [hpOf_heap (w := { w with heap := w.heap.push (.cells c.toArray e) }) h3 h1 h2]
    exact this
  exact ⟨_, _, ha.put hN _, stars_head_mono (fun k hk => ⟨hc, Nat.le_refl _, .inr ⟨_, [], [], rfl, by simp [hc], by simpa using hk⟩⟩) hs', h _⟩
/-- make([]T, n) -/
theorem OP.makeS {t e : TypeId} {tsl ti : TI} {x y : Operand} {n : Int} {z : List Value} {sz by_ : Nat} (ho : o.op = .makeSlice t x y) (hx : rd none env x = some (none, .int .i64 n)) (hy : rd none env y = some (none, .int .i64 n))
    (ht : G.T.find t = some tsl) (htd : tsl.desc = .slice e) (hte : G.T.find e = some ti) (hsz : szL ti = some (sz, by_)) (hz : zeroL ti = some z) (h0 : 0 ≤ n) (hb : n * by_ ≤ 140737488355328) (hmax : n ≤ 9223372036854775807)
    (hd : o.dst = some d) (hN : Nat.blt d N = true) (h : ∀ b, post ((d, .val (.slice (some ⟨b, 0, none⟩) n.toNat n.toNat)) :: env) (ownS (some ⟨b, 0, none⟩) n.toNat n.toNat e sz (repL z n.toNat) :: L)) : OP G N o env L post := by
  obtain ⟨e1, e2⟩ := szL_eq hsz
  have hz' := zeroL_eq hz
  have eE := Tab.find_ok G.ok hte
  have hzl : z.length = sz := by rw [← hz', eE.zero, e1]
  refine OP.newS (c := repL z n.toNat) (size := sz) (by rw [repL_length, hzl]) (fun a w ha _ => ?_) hd hN h
  have hu : G.P.underlying t = some (.slice e) := htd ▸ (Tab.find_ok G.ok ht).desc
  obtain ⟨x', hx', hinfo, hxs, hxb, hxz, _⟩ := run_info eE w
  have hw : IntKind.i64.wrap n = n := wrap_fit (k := .i64) (by unfold Fit; omega)
  have hbig : ¬ ((x'.bytes : Int) * n > 2 ^ 48) := by rw [hxb, e2, Int.mul_comm]; omega
  have hroom : ¬ (n.toNat * x'.bytes > roomBytes) := by
    have : ((n.toNat * x'.bytes : Nat) : Int) = n * by_ := by
      rw [Int.natCast_mul, Int.toNat_of_nonneg h0, hxb, e2]
    unfold roomBytes
    omega
  have hzc : (zeroOf ti).cells = ti.zero.toArray := eE.zcells
  have hrep := rep_eq (zeroOf ti).cells n.toNat
  have hzs : (zeroOf ti).cells.size = ti.size := by rw [hzc]; simp [eE.zero]
  rw [hzs, hzc] at hrep
  simp only [hz'] at hrep
  have hlt : ¬ n < 0 := by omega
  refine ⟨{ w with heap := w.heap.push (.cells (repL z n.toNat).toArray e) }, ?_, rfl, rfl, rfl⟩
  rw [execOp, ho]
  refine val_run' ?_
  have hbig' : ¬ (281474976710656 < (x'.bytes : Int) * n) := by simpa using hbig
  have hroom' : ¬ roomBytes < n.toNat * x'.bytes := hroom
  by_cases hzero : n.toNat * ti.size = 0
  · have hnil : repL z n.toNat = [] := List.length_eq_zero_iff.1 (by rw [repL_length, hzl, ← e1]; exact hzero)
    simp [Instr.makeSlice, run_underlying hu, rd_plain hx ha, rd_plain hy ha, asInt, asIntOf, hinfo, hw, hlt, hbig', askRoom, run_size eE, hzero, hnil, newRow]
    have : (Array.map (fun _ => (default : Value)) (Array.range 0)) = #[] := by apply Array.ext'; simp
    rw [this]
  · simp [Instr.makeSlice, run_underlying hu, rd_plain hx ha, rd_plain hy ha, asInt, asIntOf, hinfo, hw, hlt, hbig', askRoom, run_size eE, hzero, run_zero eE, hzc, hz', newRow]
    rw [← hrep]
    congr 2
    congr 1
    funext i
    rw [hzl, ← e1]
    simp
/-- append(nil, make([]T, n)...) -/
theorem OP.appendZ {t t2 e : TypeId} {tsl ti ti2 : TI} {x y : Operand} {n : Int} {z : List Value} {sz by_ : Nat} {k2 : IntKind} (ho : o.op = .call ⟨.builtin .append, #[x, y], #[t, t2]⟩) (hx : rd none env x = some (none, .slice none 0 0)) (hy : rd none env y = some (none, .int .i64 n))
    (ht : G.T.find t = some tsl) (htd : tsl.desc = .slice e) (hte : G.T.find e = some ti) (hsz : szL ti = some (sz, by_)) (hz : zeroL ti = some z) (ht2 : G.T.find t2 = some ti2) (ht2d : ti2.desc = .int k2) (h0 : 0 < n) (hs1 : 0 < sz) (hb : n * by_ ≤ 70368744177664) (hmax : n ≤ 9223372036854775807)
    (hd : o.dst = some d) (hN : Nat.blt d N = true) (h : ∀ b cap, n.toNat ≤ cap → post ((d, .val (.slice (some ⟨b, 0, none⟩) n.toNat cap)) :: env) (ownS (some ⟨b, 0, none⟩) n.toNat cap e sz (repL z n.toNat) :: L)) : OP G N o env L post := .mk fun a w ha hs => by
  obtain ⟨e1, e2⟩ := szL_eq hsz
  have hz' := zeroL_eq hz
  have eE := Tab.find_ok G.ok hte
  have hzl : z.length = sz := by rw [← hz', eE.zero, e1]
  have hu : G.P.underlying t = some (.slice e) := htd ▸ (Tab.find_ok G.ok ht).desc
  have hu2 : G.P.underlying t2 = some (.int k2) := ht2d ▸ (Tab.find_ok G.ok ht2).desc
  obtain ⟨x', hx', hinfo, hxs, hxb, hxz, _⟩ := run_info eE w
  have hinfo' : ∀ w', (typeInfo e).run G.P w' = .ok x' w' := fun w' => by obtain ⟨x2, hx2, h', _⟩ := run_info eE w'; rw [hx'] at hx2; cases hx2; exact h'
  have hw : IntKind.i64.wrap n = n := wrap_fit (k := .i64) (by unfold Fit; omega)
  have hlt : ¬ n < 0 := by omega
  have hbig : ¬ (281474976710656 < n * (x'.bytes : Int)) := by rw [hxb, e2]; omega
  obtain ⟨m, rfl⟩ : ∃ m : Nat, n = m := ⟨n.toNat, by omega⟩
  have hm : 0 < m := by omega
  have hcapb : ¬ (281474976710656 < Builtin.nextslicecap m 0 * x'.bytes) := by
    have h1 := nextcap_le m 0 hm
    have h2 : Builtin.nextslicecap m 0 * x'.bytes ≤ 2 * m * x'.bytes := Nat.mul_le_mul_right _ h1
    have h3 : (m : Int) * by_ ≤ 70368744177664 := hb
    have h4 : m * x'.bytes ≤ 70368744177664 := by
      rw [hxb, e2]
      have : ((m * by_ : Nat) : Int) = (m : Int) * by_ := Int.natCast_mul m by_
      omega
    rw [Nat.mul_assoc] at h2
    omega
  have hfo : (Question.appendCap m 0 e).forced = false := rfl
  obtain ⟨cap, hcap, hge⟩ : ∃ cap, (Question.appendCap m 0 e).cut (w.tape w.drawn (Question.appendCap m 0 e)) = cap ∧ m ≤ cap := ⟨_, rfl, by simp only [Question.cut]; omega⟩
  have hzc : (zeroOf ti).cells = ti.zero.toArray := eE.zcells
  have hzero : ¬ (m * ti.size = 0) := by
    have : 0 < m * ti.size := Nat.mul_pos hm (by omega)
    omega
  have hs1 : Sat L w.drew := hs
  have hnew := Sat.new hs1 ((Builtin.zeroCells (zeroOf ti).cells m).toList ++ (Builtin.zeroCells (zeroOf ti).cells (cap - m)).toList) e
  unfold Oper.wp
  have hmi : ¬ (9223372036854775807 < (m : Int)) := by omega
  have hfc : ∀ w', (Builtin.firstCells ti.size 0 (.slice none 0 0)).run G.P w' = .ok #[] w' := fun w' => by simp [Builtin.firstCells]
  have hr : (execOp a.eval o).run G.P w = .ok (.value (.slice (some ⟨w.heap.size, 0, none⟩) m cap)) { w.drew with heap := w.heap.push (.cells ((Builtin.zeroCells (zeroOf ti).cells m).toList ++ (Builtin.zeroCells (zeroOf ti).cells (cap - m)).toList).toArray e) } := by
    rw [execOp, ho]
    have hm0 : ¬ m = 0 := by omega
    simp [resolve, invoke, builtin, rd_plain hx ha, rd_plain hy ha, Builtin.append_, run_underlying hu, run_underlying hu2, run_size eE, asInt, asIntOf, hw, hlt, hinfo', hbig, hm0, hmi, hcapb, hfo, hcap, hfc, hzero, run_zero eE, newRow]
    have earr : (Builtin.zeroCells (zeroOf ti).cells m ++ Builtin.zeroCells (zeroOf ti).cells (cap - m)) = ((Builtin.zeroCells (zeroOf ti).cells m).toList ++ (Builtin.zeroCells (zeroOf ti).cells (cap - m)).toList).toArray := by
      apply Array.ext'; simp
    rw [earr]
    rfl
  rw [hr]
  simp only [Oper.upon, hd]
  have hrep : ∀ k, (Builtin.zeroCells (zeroOf ti).cells k).toList = repL z k := fun k => by
    unfold Builtin.zeroCells
    rw [rep_eq, hzc, hz']
  rw [hrep, hrep] at *
  have h := h w.heap.size cap hge
  rw [Int.toNat_natCast] at h
  refine ⟨_, _, ha.put hN _, stars_head_mono (fun k hk => ⟨by rw [repL_length, hzl], hge, .inr ⟨_, [], repL z (cap - m), rfl, ?_, by simpa using hk⟩⟩) hnew, h⟩
  rw [repL_length, repL_length, hzl, ← Nat.add_mul]
  exact Nat.mul_le_mul_right _ (by omega)
/-- cap(s) -/
theorem OP.capS {t e : TypeId} {tsl : TI} {x : Operand} {a : Option Addr} {n c : Nat} (ho : o.op = .call ⟨.builtin .cap, #[x], #[t]⟩) (hx : rd none env x = some (none, .slice a n c)) (ht : G.T.find t = some tsl) (htd : tsl.desc = .slice e)
    (hd : o.dst = some d) (hN : Nat.blt d N = true) (h : post ((d, .val (.int .i64 c)) :: env) L) : OP G N o env L post :=
  .run (fun ac w ha _ => by
    have hu : G.P.underlying t = some (.slice e) := htd ▸ (Tab.find_ok G.ok ht).desc
    rw [execOp, ho]
    simp [resolve, invoke, builtin, rd_plain hx ha, Builtin.cap_, run_underlying hu, goInt]) hd hN h
/-- []T without elements -/
theorem OP.lit0 {t e : TypeId} {tsl ti : TI} {size : Nat} (ho : o.op = .buildSlice t 0 #[]) (ht : G.T.find t = some tsl) (htd : tsl.desc = .slice e) (hte : G.T.find e = some ti)
    (hd : o.dst = some d) (hN : Nat.blt d N = true) (h : ∀ b, post ((d, .val (.slice (some ⟨b, 0, none⟩) 0 0)) :: env) (ownS (some ⟨b, 0, none⟩) 0 0 e size [] :: L)) : OP G N o env L post := by
  have eE := Tab.find_ok G.ok hte
  refine OP.newS (c := []) (size := size) (by simp) (fun a w ha _ => ?_) hd hN h
  have hu : G.P.underlying t = some (.slice e) := htd ▸ (Tab.find_ok G.ok ht).desc
  refine ⟨{ w with heap := w.heap.push (.cells #[] e) }, ?_, rfl, rfl, rfl⟩
  rw [execOp, ho]
  refine val_run' ?_
  have : (Array.map (fun _ => (default : Value)) (Array.range 0)) = #[] := by apply Array.ext'; simp
  simp [Instr.buildSlice, run_underlying hu, run_size eE, Instr.fill, newRow, this]
/-- what a slice owns, cut at its end: the rest becomes room -/
theorem ownS_take {a : Option Addr} {n cap m size : Nat} {T : TypeId} {cs : List Value} {h : Hp} (x : ownS a n cap T size cs h) (hm : m ≤ n) : ownS a m cap T size (cs.take (m * size)) h := by
  have hle : m * size ≤ n * size := Nat.mul_le_mul_right _ hm
  obtain ⟨e, le, ⟨rfl, rfl⟩ | ⟨b, pre, post, rfl, hc, x⟩⟩ := x
  · have : m = 0 := by omega
    subst this
    exact ⟨by simp, Nat.le_refl _, .inl ⟨rfl, rfl⟩⟩
  · refine ⟨by rw [List.length_take, e]; omega, by omega, .inr ⟨b, pre, cs.drop (m * size) ++ post, rfl, ?_, ?_⟩⟩
    · rw [List.length_take, List.length_append, List.length_drop]; omega
    · rw [← List.append_assoc, List.append_assoc pre, List.take_append_drop]; exact x
theorem Imp.ownTake {a : Option Addr} {n cap m size : Nat} {T : TypeId} {cs : List Value} (hm : m ≤ n) : Imp (ownS a n cap T size cs :: L) (ownS a m cap T size (cs.take (m * size)) :: L) := fun _ s => stars_head_mono (fun _ x => ownS_take x hm) s
end
end Go.GL
/- Quiet operations of drawn regions, guarded or not, by what they come to. -/
namespace Go.GL
open Go
/-- What an operation comes to where S holds; it changes nothing. -/
structure Quiet (G : Ctx) (N : Nat) (env : Env) (S : List Assn) (o : Oper) (v : Value) : Prop where
  run : ∀ a w, Agree N env a → Sat S w → (execOp a.eval o).run G.P w = .ok (.value v) w
section
variable {G : Ctx} {N : Nat} {env : Env} {L S : List Assn} {o : Oper} {post : Env → List Assn → Prop} {d : Nat}
theorem Quiet.pure {nw : Bool} {c : Option Prop} {v : Value} (he : ev G.T nw none env o.op = some (c, v)) (hc : Holds c) : Quiet G N env S o v := ⟨fun _ w ha _ => ev_ok G.ok he hc trivial ha w⟩
theorem Quiet.load {t : TypeId} {x : Operand} {b off : Nat} {ti : TI} {v : Value} (ho : o.op = .load t x) (hx : rd none env x = some (none, .pointer (some ⟨b, off, none⟩))) (hti : G.T.find t = some ti) (hv : Loads S ti b off v) : Quiet G N env S o v :=
  ⟨fun _ _ ha hs => run_loads G.ok ho (rd_plain hx ha) hti hv hs⟩
theorem Quiet.eqAgg {b : Bool} (e : EqAgg G env o.op b) : Quiet G N env S o (.bool b) := ⟨fun a w ha _ => e.run N a w o rfl ha⟩
theorem Quiet.pickT {x y z : Operand} {v : Value} (ho : o.op = .pick x y z) (hx : rd none env x = some (none, .bool true)) (hv : rd none env y = some (none, v)) : Quiet G N env S o v :=
  ⟨fun a w ha _ => by rw [execOp, ho]; simp [rd_plain hx ha, rd_plain hv ha, asBool]⟩
theorem Quiet.pickF {x y z : Operand} {v : Value} (ho : o.op = .pick x y z) (hx : rd none env x = some (none, .bool false)) (hv : rd none env z = some (none, v)) : Quiet G N env S o v :=
  ⟨fun a w ha _ => by rw [execOp, ho]; simp [rd_plain hx ha, rd_plain hv ha, asBool]⟩
/-- string(b) -/
theorem Quiet.toStr {s t e : TypeId} {x : Operand} {a : Option Addr} {n cap : Nat} {sv : ByteArray} {tis tit tie : TI} (ho : o.op = .convert s t x) (hx : rd none env x = some (none, .slice a n cap)) (hs : G.T.find s = some tis) (hsd : tis.desc = .slice e) (ht : G.T.find t = some tit) (htd : tit.desc = .string)
    (hte : G.T.find e = some tie) (hed : tie.desc = .int .u8) (hr : Ent S (readS a n 1 (strCells sv))) : Quiet G N env S o (.string sv) :=
  ⟨fun ac w ha hsat => by
    have us : G.P.underlying s = some (.slice e) := hsd ▸ (Tab.find_ok G.ok hs).desc
    have ut : G.P.underlying t = some .string := htd ▸ (Tab.find_ok G.ok ht).desc
    have ue : G.P.underlying e = some (.int .u8) := hed ▸ (Tab.find_ok G.ok hte).desc
    rw [execOp, ho]
    refine val_run ?_
    obtain ⟨e1, hh⟩ := hr _ hsat
    simp only [convert, Sem.run_bind, run_underlying us, run_underlying ut, Result.andThen_ok, rd_plain hx ha, run_underlying ue]
    rcases hh with ⟨rfl, rfl⟩ | ⟨b, off, rfl, hc⟩
    · have : sv = ByteArray.empty := by
        rw [strCells_length] at e1
        have h0 : sv.size = 0 := by simpa using e1
        exact ByteArray.size_eq_zero_iff.1 h0
      simp [Conv.bytesToString, this]
    · have hl := run_cells (P := G.P) hc (strCells sv).length 0 #[] (by omega)
      simp only [List.drop_zero, Array.empty_append] at hl
      have e1 : (strCells sv).length = n := by simpa using e1
      have hl' : (loadCells ⟨b, off, none⟩ n).run G.P w = .ok (strCells sv).toArray w := by rw [← e1]; exact hl
      simp only [Conv.bytesToString, Sem.run_bind, hl', Result.andThen_ok]
      rw [List.forIn_toArray]
      unfold strCells
      rw [push_all (fun b s => by simp [byteV]) sv.data.toList ByteArray.empty G.P w]
      simp⟩
theorem OP.quiet {v : Value} (h : Quiet G N env L o v) (hd : o.dst = some d) (hN : Nat.blt d N = true) (k : post ((d, .val v) :: env) L) : OP G N o env L post := .run (fun a w ha hs => h.run a w ha hs) hd hN k
end
section
variable {G : Ctx} {N : Nat} {env : Env} {L S : List Assn} {k : Kont} {n : Nat} {fuel : Nat} {listed : Array Bool} {l : List Oper} {o : Oper}
theorem WH.q (i : Nat) {d : Nat} {v : Value} (hi : l.toArray[i]? = some o) (hg : o.guard = none) (hs : Region.noSelect l.toArray = true) (hf : Region.free .any l.toArray listed i = true) (hr : (Region.ready .any l.toArray listed).contains i = true)
    (hk : ∀ c env L, ¬ k (.panic c) env L) (hin : (Nat.blt i n && tailI l.toArray n i) = true) (hq : Quiet G N env S o v) (hdst : o.dst = some d) (hN : Nat.blt d N = true)
    (h : WH G N l.toArray n S true fuel (listed.setIfInBounds i true) ((d, .val v) :: env) L k) : WH G N l.toArray n S true (fuel + 1) listed env L k := .mk fun a w ha hsat hS hcl => by
  have hri : i ∈ Region.ready .any l.toArray listed := by simpa using hr
  have hin' : i < n := by simp only [Bool.and_eq_true] at hin; simpa [Nat.blt_eq] using hin.1
  have htl : tailI l.toArray n i = true := by simp only [Bool.and_eq_true] at hin; exact hin.2
  refine wpB_first (R := Sat S) hi (Region.noSelect_spec hs) (fun c a w => noPanic hk c a w _ _) fuel true listed a w (.inr hin') (.inr ⟨rfl, htl, fun _ h => h⟩) hcl (Region.free_spec hi hf) hri
    (.inl ⟨by simp [Region.wanted, hg], fun w hw => hq.run a w ha hw⟩) (hS rfl) (fun _ => hS rfl) ?_
  rw [hdst]; exact h _ w (ha.put hN v) hsat hS (hcl.set hri)
/-- its guard says yes -/
theorem WH.gT (i : Nat) {j jt d : Nat} {want : Bool} {oj : Oper} {v : Value} (hi : l.toArray[i]? = some o) (hg : o.guard = some (j, want)) (hj : l.toArray[j]? = some oj) (hjt : oj.dst = some jt) (hw : gdOf env jt want = some true)
    (hs : Region.noSelect l.toArray = true) (hf : Region.free .any l.toArray listed i = true) (hr : (Region.ready .any l.toArray listed).contains i = true)
    (hk : ∀ c env L, ¬ k (.panic c) env L) (hin : (Nat.blt i n && tailI l.toArray n i) = true) (hq : Quiet G N env S o v) (hdst : o.dst = some d) (hN : Nat.blt d N = true)
    (h : WH G N l.toArray n S true fuel (listed.setIfInBounds i true) ((d, .val v) :: env) L k) : WH G N l.toArray n S true (fuel + 1) listed env L k := .mk fun a w ha hsat hS hcl => by
  have hri : i ∈ Region.ready .any l.toArray listed := by simpa using hr
  have hin' : i < n := by simp only [Bool.and_eq_true] at hin; simpa [Nat.blt_eq] using hin.1
  have htl : tailI l.toArray n i = true := by simp only [Bool.and_eq_true] at hin; exact hin.2
  have hw := gdOf_ok (ops := l.toArray) ha hw hj hjt hg
  refine wpB_first (R := Sat S) hi (Region.noSelect_spec hs) (fun c a w => noPanic hk c a w _ _) fuel true listed a w (.inr hin') (.inr ⟨rfl, htl, fun _ h => h⟩) hcl (Region.free_spec hi hf) hri
    (.inl ⟨hw, fun w hw => hq.run a w ha hw⟩) (hS rfl) (fun _ => hS rfl) ?_
  rw [hdst]; exact h _ w (ha.put hN v) hsat hS (hcl.set hri)
/-- what a guard's temporary says no to -/
def gdNo (env : Env) (t : Nat) (want : Bool) : Bool :=
  match want, Env.get env t with
  | true, some (.val (.bool false)) => true
  | false, some (.val (.bool true)) => true
  | _, some (.val (.tuple ⟨[]⟩)) => true
  | _, _ => false
theorem gdNo_ok {a : Act} (ha : Agree N env a) {t : Nat} {want : Bool} (h : gdNo env t want = true) {ops : Array Oper} {j : Nat} {oj : Oper} (hj : ops[j]? = some oj) (hd : oj.dst = some t) (hg : o.guard = some (j, want)) :
    Region.wanted o (yielded ops a.tmps) = false := by
  simp only [Region.wanted, hg, yielded, hj, hd, Option.bind_some]
  unfold gdNo at h
  split at h
  · rename_i hs
    have := ha.at_ _ _ hs
    simp only [Slot.fits] at this
    rw [this]
    rfl
  · rename_i hs
    have := ha.at_ _ _ hs
    simp only [Slot.fits] at this
    rw [this]
    rfl
  · rename_i hs
    have := ha.at_ _ _ hs
    simp only [Slot.fits] at this
    rw [this]
    rfl
  · cases h
/-- its guard says no -/
theorem WH.gF (i : Nat) {j jt d : Nat} {want : Bool} {oj : Oper} (hi : l.toArray[i]? = some o) (hg : o.guard = some (j, want)) (hj : l.toArray[j]? = some oj) (hjt : oj.dst = some jt) (hw : gdNo env jt want = true)
    (hs : Region.noSelect l.toArray = true) (hf : Region.free .any l.toArray listed i = true) (hr : (Region.ready .any l.toArray listed).contains i = true)
    (hk : ∀ c env L, ¬ k (.panic c) env L) (hin : (Nat.blt i n && tailI l.toArray n i) = true) (hdst : o.dst = some d) (hN : Nat.blt d N = true)
    (h : WH G N l.toArray n S true fuel (listed.setIfInBounds i true) ((d, .val undef) :: env) L k) : WH G N l.toArray n S true (fuel + 1) listed env L k := .mk fun a w ha hsat hS hcl => by
  have hri : i ∈ Region.ready .any l.toArray listed := by simpa using hr
  have hin' : i < n := by simp only [Bool.and_eq_true] at hin; simpa [Nat.blt_eq] using hin.1
  have htl : tailI l.toArray n i = true := by simp only [Bool.and_eq_true] at hin; exact hin.2
  have hw := gdNo_ok (ops := l.toArray) ha hw hj hjt hg
  refine wpB_first (R := Sat S) (v := undef) hi (Region.noSelect_spec hs) (fun c a w => noPanic hk c a w _ _) fuel true listed a w (.inr hin') (.inr ⟨rfl, htl, fun _ h => h⟩) hcl (Region.free_spec hi hf) hri
    (.inr ⟨hw, rfl⟩) (hS rfl) (fun _ => hS rfl) ?_
  rw [hdst]; exact h _ w (ha.put hN _) hsat hS (hcl.set hri)
end
section
variable {G : Ctx} {env : Env} {L : List Assn}
theorem ret2c {p : Value → List Assn → Prop} {t u ty b off : Nat} {ti : TI} {v : Value} {l : List Value} (h1 : Env.get env t = some (.val v)) (h2 : Env.get env u = some (.val (.pointer (some ⟨b, off, none⟩)))) (ht : G.T.find ty = some ti) (hg : ti.agg = true) (hl : l.length = ti.size) (hc : Ent L (cellsAt b off l)) (h : p (.tuple #[v, .agg l.toArray]) L) :
    retK G [.tmp t, .cell u ty] p .ret env L := ⟨[v, .agg l.toArray], ⟨v, [.agg l.toArray], rfl, h1, b, off, _, [], ti, rfl, h2, ht, .inr ⟨hg, l, rfl, hl, hc⟩, rfl⟩, h⟩
theorem ret3c {p : Value → List Assn → Prop} {t u s ty b off : Nat} {ti : TI} {v x : Value} {l : List Value} (h1 : Env.get env t = some (.val v)) (h2 : Env.get env u = some (.val (.pointer (some ⟨b, off, none⟩)))) (h3 : Env.get env s = some (.val x)) (ht : G.T.find ty = some ti) (hg : ti.agg = true) (hl : l.length = ti.size) (hc : Ent L (cellsAt b off l)) (h : p (.tuple #[v, .agg l.toArray, x]) L) :
    retK G [.tmp t, .cell u ty, .tmp s] p .ret env L := ⟨[v, .agg l.toArray, x], ⟨v, [.agg l.toArray, x], rfl, h1, b, off, _, [x], ti, rfl, h2, ht, .inr ⟨hg, l, rfl, hl, hc⟩, x, [], rfl, h3, rfl⟩, h⟩
end
end Go.GL
/- Calls of functions without a body, by what they come to; calls through an interface. -/
namespace Go.GL
open Go
/-- A function without a body, and what it comes to. -/
def IsExt (P : Program) (f : FuncId) (e : Array Value → Sem Value) : Prop := ∀ args w, (callFunc f args).run P w = ((e args).run P w).andThen fun v w' => .ok (.value v) w'
section
variable {G : Ctx} {N : Nat} {env : Env} {L : List Assn} {o : Oper} {post : Env → List Assn → Prop} {d : Nat}
/-- What an operation that calls such a function comes to. -/
structure Execs (G : Ctx) (N : Nat) (env : Env) (o : Oper) (e : Array Value → Sem Value) (args : List Value) : Prop where
  run : ∀ a w, Agree N env a → (execOp a.eval o).run G.P w = ((e args.toArray).run G.P w).andThen fun v w' => .ok (.value v) w'
theorem Execs.call {f : FuncId} {xs : List Operand} {ats : Array TypeId} {vs : List Value} {e : Array Value → Sem Value} (he : IsExt G.P f e) (ho : o.op = .call ⟨.value (.func f), xs.toArray, ats⟩) (hv : rdAll env xs = some vs) : Execs G N env o e vs := ⟨fun a w ha => by
  rw [← he]
  simp only [execOp, ho, resolve, Act.eval, Deferred.ofValue, Sem.run_bind, Sem.run_pure, Result.andThen_ok, invoke]
  have := rdAll_ok ha hv
  simp [← this]⟩
theorem Execs.inv {f : FuncId} {recv : Operand} {name : String} {xs : List Operand} {ats : Array TypeId} {vs : List Value} {t : TypeId} {x r : Value} {e : Array Value → Sem Value} (he : IsExt G.P f e) (ho : o.op = .call ⟨.invoke recv name, xs.toArray, ats⟩) (hx : rd none env recv = some (none, .iface t x)) (hv : rdAll env xs = some vs)
    (hm : ∀ w, (method (G.P.types.size + Made.depth) t x name).run G.P w = .ok (f, r) w) : Execs G N env o e (r :: vs) := ⟨fun a w ha => by
  rw [← he]
  have h1 := rdAll_ok ha hv
  have h2 := rd_plain hx ha
  simp only [execOp, ho, resolve, Sem.run_bind, Sem.run_pure, Result.andThen_ok, invoke]
  simp [h2, h1, callMethod, hm]⟩
theorem OP.extP {e : Array Value → Sem Value} {vs : List Value} {v : Value} (x : Execs G N env o e vs) (hr : ∀ w, Sat L w → (e vs.toArray).run G.P w = .ok v w) (hd : o.dst = some d) (hN : Nat.blt d N = true) (h : post ((d, .val v) :: env) L) : OP G N o env L post :=
  .run (fun a w ha hs => by rw [x.run a w ha, hr w hs]; rfl) hd hN h
theorem OP.extNew {e : Array Value → Sem Value} {vs : List Value} {c : List Value} {T : TypeId} {mk : Nat → Value} (x : Execs G N env o e vs) (hr : ∀ w, Sat L w → (e vs.toArray).run G.P w = .ok (mk w.heap.size) (w.alloc (.cells c.toArray T))) (hd : o.dst = some d) (hN : Nat.blt d N = true)
    (h : ∀ b, post ((d, .val (mk b)) :: env) (blk b c T :: L)) : OP G N o env L post := .mk fun a w ha hs => by
  unfold Oper.wp
  rw [x.run a w ha, hr w hs]
  simp only [Result.andThen_ok, Oper.upon, hd]
  exact ⟨_, _, ha.put hN _, hs.new c T, h _⟩
theorem OP.extSet {e : Array Value → Sem Value} {vs : List Value} {v : Value} {b off : Nat} {c : List Value} {T : TypeId} {y : Value} {M : List Assn} (x : Execs G N env o e vs) (hr : ∀ w, Sat L w → (e vs.toArray).run G.P w = .ok v (w.setCell ⟨b, off, none⟩ y)) (hu : Upd L b c T (c.set off y) M) (hd : o.dst = some d) (hN : Nat.blt d N = true)
    (h : post ((d, .val v) :: env) M) : OP G N o env L post := .mk fun a w ha hs => by
  unfold Oper.wp
  rw [x.run a w ha, hr w hs]
  simp only [Result.andThen_ok, Oper.upon, hd]
  exact ⟨_, _, ha.put hN _, Sat.set hu hs, h⟩
/-- x.(I), with comma-ok -/
theorem OP.assert {x : Operand} {xT I t : TypeId} {v r : Value} (ho : o.op = .typeAssert x xT I true) (hx : rd none env x = some (none, .iface t v)) (hr : ∀ w, (Instr.typeAssert (.iface t v) xT I true).run G.P w = .ok r w) (hd : o.dst = some d) (hN : Nat.blt d N = true) (h : post ((d, .val r) :: env) L) : OP G N o env L post :=
  .run (fun a w ha _ => by
    rw [execOp, ho]
    refine val_run ?_
    rw [rd_plain hx ha]
    exact hr w) hd hN h
/-- a method that has a body, called through an interface -/
theorem OP.invRO {f : FuncId} {recv : Operand} {name : String} {ats : Array TypeId} {t : TypeId} {x r v : Value} {R : Assn} (ho : o.op = .call ⟨.invoke recv name, #[], ats⟩) (hx : rd none env recv = some (none, .iface t x))
    (hm : ∀ w, (method (G.P.types.size + Made.depth) t x name).run G.P w = .ok (f, r) w) (ht : RO G f [r] R v) (he : Ent L R) (hd : o.dst = some d) (hN : Nat.blt d N = true) (h : post ((d, .val v) :: env) L) : OP G N o env L post := .mk fun a w ha hs => by
  obtain ⟨dst, op, type, pos, after, guard⟩ := o
  simp only at ho hd
  subst ho hd
  have hcall : (execOp a.eval ⟨some d, .call ⟨.invoke recv name, #[], ats⟩, type, pos, after, guard⟩).run G.P w = .ok (.enter f [r].toArray) w := by
    obtain ⟨fn, c, h1, h2, h3⟩ := ht.enters.ex
    have h2' := rd_plain hx ha
    simp only [execOp, resolve, Sem.run_bind, Sem.run_pure, Result.andThen_ok, invoke]
    have h4 : ¬ fn.name = "runtime.NumGoroutine" := by simpa using h2
    simp [h2', callMethod, hm, callFunc, h1, h4, h3]
  unfold Oper.wp
  rw [hcall]
  simp only [Oper.upon]
  refine (ht.calls w (he _ hs)).mono ?_
  rintro e w' ⟨rfl, x⟩
  exact ⟨_, _, ha.put hN v, hs.ext x, h⟩
end
end Go.GL
/- In a drawn region: what its loads lean on may grow. -/
namespace Go.GL
open Go
theorem wpB_more {P : Program} {ops : Array Oper} {Q : Exit → Act → World → Prop} {S S' : World → Prop} {n : Nat} (h : ∀ w, S' w → S w) :
    ∀ (hd : Bool) (fuel : Nat) (listed : Array Bool) (a : Act) (w : World), wpB P ops Q S' n hd fuel listed a w → wpB P ops Q S n hd fuel listed a w
  | _, 0, _, _, _, x => x
  | _, fuel + 1, _, _, _, x => ⟨x.1, fun i hi => wpOp_mono (fun a' w' y => ⟨fun hin => h _ (y.1 hin), wpB_more h _ fuel _ a' w' y.2⟩) (x.2 i hi)⟩
/-- from here on the loads may lean on more -/
theorem WH.more {G : Ctx} {N : Nat} {ops : Array Oper} {n : Nat} {S : List Assn} (S' : List Assn) {fuel : Nat} {listed : Array Bool} {env : Env} {L : List Assn} {k : Kont} (hS : Imp S' S) (hL : Imp L S') (h : WH G N ops n S' true fuel listed env L k) : WH G N ops n S true fuel listed env L k :=
  .mk fun a w ha hs _ hcl => wpB_more (fun _ x => hS.sat x) _ fuel listed a w (h.go a w ha hs (fun _ => hL.sat hs) hcl)
end Go.GL
/- Short words for the steps of a proof. -/
namespace Go.GL
open Go
structure Hd (Q : Prop) : Prop where
  h : Q
theorem MM {α : Type} {a : α} {l : List α} (h : a ∈ l := by repeat (first | exact List.Mem.head _ | apply List.Mem.tail)) : a ∈ l := h
theorem II {L M : List Assn} (h : Imp L M := by exact (Imp.sub (by repeat (first | exact Picks.nil _ | apply Picks.cons | exact Pick.here _ _ | apply Pick.there)))) : Imp L M := h
theorem P1 {L M : List Assn} (h : Imp L M := by exact (Pick.imp (by repeat (first | exact Pick.here _ _ | apply Pick.there)))) : Imp L M := h
theorem PS {L M : List Assn} (h : Imp L M := by exact (Picks.imp (by repeat (first | exact Picks.nil _ | apply Picks.cons | exact Pick.here _ _ | apply Pick.there)))) : Imp L M := h
theorem UP {L M : List Assn} {b off : Nat} {vs : List Value} (h : UpdM L b off vs M := by exact (by repeat (first | exact UpdM.here rfl | apply UpdM.there))) : UpdM L b off vs M := h
theorem HC {L : List Assn} {b off n : Nat} {l : List Value} (h : HasCut L b off n l := by exact (by repeat (first | exact HasCut.here rfl | apply HasCut.there))) : HasCut L b off n l := h
theorem GO {P Q : Prop} (h : Q) (s : Hd Q → P := by
  intro hh
  (first
    | refine WC.seq ?_ | refine WC.region ?_ | refine WL.nil ?_ | with_reducible refine seqK.go ?_ | refine WC.block ?_ | refine WC.skip ?_ | refine WC.exit ?_ | refine WC.ret ?_
    | with_reducible refine seqK.exit ?_ | with_reducible refine seqK.ret ?_ | (with_reducible refine blockK.hit ?hb ?_; (case hb => rfl)) | (with_reducible refine blockK.miss ?hb ?_; (case hb => rfl)) | with_reducible refine blockK.normal ?_ | with_reducible refine blockK.ret ?_ | with_reducible refine loopK.exit ?_ | with_reducible refine loopK.ret ?_
    | refine WC.condT rfl ?_ | refine WC.condF rfl ?_
    | (refine WL.step rfl ?_; first | refine OP.pure (nw := true) rfl (by first | exact trivial | (simp only [Holds]; omega) | (simp [Holds]; done) | (simp [Holds]; omega)) rfl rfl ?_ | refine OP.pure (nw := false) rfl (by first | exact trivial | (simp only [Holds]; omega) | (simp [Holds]; done) | (simp [Holds]; omega)) rfl rfl ?_ | refine OP.pickT rfl rfl rfl rfl rfl ?_ | refine OP.pickF rfl rfl rfl rfl rfl ?_ | refine OP.loadN rfl rfl rfl rfl (by repeat (first | exact HasNth.here rfl | apply HasNth.there)) rfl rfl ?_ | refine OP.loadB rfl rfl rfl rfl rfl (by repeat (first | exact HasCut.here rfl | apply HasCut.there)) rfl rfl ?_ | refine OP.store rfl rfl rfl rfl rfl rfl rfl (by repeat (first | exact UpdM.here rfl | apply UpdM.there)) rfl ?_ | refine OP.buildT rfl rfl rfl rfl ?_ | refine OP.capS rfl rfl rfl rfl rfl rfl ?_)
    | (refine WL.guardT rfl rfl rfl rfl ?_; first | refine OP.pickT rfl rfl rfl rfl rfl ?_ | refine OP.pickF rfl rfl rfl rfl rfl ?_ | refine OP.pure (nw := true) rfl (by first | exact trivial | (simp only [Holds]; omega) | (simp [Holds]; done) | (simp [Holds]; omega)) rfl rfl ?_ | refine OP.pure (nw := false) rfl trivial rfl rfl ?_ | refine OP.loadN rfl rfl rfl rfl (by repeat (first | exact HasNth.here rfl | apply HasNth.there)) rfl rfl ?_ | refine OP.loadB rfl rfl rfl rfl rfl (by repeat (first | exact HasCut.here rfl | apply HasCut.there)) rfl rfl ?_ | refine OP.buildT rfl rfl rfl rfl ?_)
    | refine WL.guardF rfl rfl rfl rfl rfl rfl ?_ | refine WL.guardU rfl rfl rfl rfl rfl rfl ?_ | refine WL.guarded (nw := true) rfl rfl rfl rfl rfl rfl rfl (by first | exact trivial | (simp only [Holds]; omega) | (simp [Holds]; done) | (simp [Holds]; omega)) ?_)
  repeat (first
    | refine WC.seq ?_ | refine WC.region ?_ | refine WL.nil ?_ | with_reducible refine seqK.go ?_ | refine WC.block ?_ | refine WC.skip ?_ | refine WC.exit ?_ | refine WC.ret ?_
    | with_reducible refine seqK.exit ?_ | with_reducible refine seqK.ret ?_ | (with_reducible refine blockK.hit ?hb ?_; (case hb => rfl)) | (with_reducible refine blockK.miss ?hb ?_; (case hb => rfl)) | with_reducible refine blockK.normal ?_ | with_reducible refine blockK.ret ?_ | with_reducible refine loopK.exit ?_ | with_reducible refine loopK.ret ?_
    | refine WC.condT rfl ?_ | refine WC.condF rfl ?_
    | (refine WL.step rfl ?_; first | refine OP.pure (nw := true) rfl (by first | exact trivial | (simp only [Holds]; omega) | (simp [Holds]; done) | (simp [Holds]; omega)) rfl rfl ?_ | refine OP.pure (nw := false) rfl (by first | exact trivial | (simp only [Holds]; omega) | (simp [Holds]; done) | (simp [Holds]; omega)) rfl rfl ?_ | refine OP.pickT rfl rfl rfl rfl rfl ?_ | refine OP.pickF rfl rfl rfl rfl rfl ?_ | refine OP.loadN rfl rfl rfl rfl (by repeat (first | exact HasNth.here rfl | apply HasNth.there)) rfl rfl ?_ | refine OP.loadB rfl rfl rfl rfl rfl (by repeat (first | exact HasCut.here rfl | apply HasCut.there)) rfl rfl ?_ | refine OP.store rfl rfl rfl rfl rfl rfl rfl (by repeat (first | exact UpdM.here rfl | apply UpdM.there)) rfl ?_ | refine OP.buildT rfl rfl rfl rfl ?_ | refine OP.capS rfl rfl rfl rfl rfl rfl ?_)
    | (refine WL.guardT rfl rfl rfl rfl ?_; first | refine OP.pickT rfl rfl rfl rfl rfl ?_ | refine OP.pickF rfl rfl rfl rfl rfl ?_ | refine OP.pure (nw := true) rfl (by first | exact trivial | (simp only [Holds]; omega) | (simp [Holds]; done) | (simp [Holds]; omega)) rfl rfl ?_ | refine OP.pure (nw := false) rfl trivial rfl rfl ?_ | refine OP.loadN rfl rfl rfl rfl (by repeat (first | exact HasNth.here rfl | apply HasNth.there)) rfl rfl ?_ | refine OP.loadB rfl rfl rfl rfl rfl (by repeat (first | exact HasCut.here rfl | apply HasCut.there)) rfl rfl ?_ | refine OP.buildT rfl rfl rfl rfl ?_)
    | refine WL.guardF rfl rfl rfl rfl rfl rfl ?_ | refine WL.guardU rfl rfl rfl rfl rfl rfl ?_ | refine WL.guarded (nw := true) rfl rfl rfl rfl rfl rfl rfl (by first | exact trivial | (simp only [Holds]; omega) | (simp [Holds]; done) | (simp [Holds]; omega)) ?_)
  exact hh.h) : P := s ⟨h⟩
theorem GD {P Q : Prop} (h : Q) (s : Hd Q → P := by
  intro hh
  (first
    | refine WC.seq ?_ | refine WC.region ?_ | refine WL.nil ?_ | with_reducible refine seqK.go ?_ | refine WC.block ?_ | refine WC.skip ?_ | refine WC.exit ?_ | refine WC.ret ?_
    | with_reducible refine seqK.exit ?_ | with_reducible refine seqK.ret ?_ | (with_reducible refine blockK.hit ?hb ?_; (case hb => rfl)) | (with_reducible refine blockK.miss ?hb ?_; (case hb => rfl)) | with_reducible refine blockK.normal ?_ | with_reducible refine blockK.ret ?_ | with_reducible refine loopK.exit ?_ | with_reducible refine loopK.ret ?_
    | refine WC.condT rfl ?_ | refine WC.condF rfl ?_
    | (refine WL.step rfl ?_; first | refine OP.decT (nw := true) rfl trivial (by first | omega | assumption) rfl rfl ?_ | refine OP.decF (nw := true) rfl trivial (by first | omega | assumption) rfl rfl ?_ | refine OP.decNT (nw := true) rfl trivial (by first | omega | assumption) rfl rfl ?_ | refine OP.decNF (nw := true) rfl trivial (by first | omega | assumption) rfl rfl ?_ | refine OP.pure (nw := true) rfl (by first | exact trivial | (simp only [Holds]; omega) | (simp [Holds]; done) | (simp [Holds]; omega)) rfl rfl ?_ | refine OP.pure (nw := false) rfl (by first | exact trivial | (simp only [Holds]; omega) | (simp [Holds]; done) | (simp [Holds]; omega)) rfl rfl ?_ | refine OP.pickT rfl rfl rfl rfl rfl ?_ | refine OP.pickF rfl rfl rfl rfl rfl ?_ | refine OP.loadN rfl rfl rfl rfl (by repeat (first | exact HasNth.here rfl | apply HasNth.there)) rfl rfl ?_ | refine OP.loadB rfl rfl rfl rfl rfl (by repeat (first | exact HasCut.here rfl | apply HasCut.there)) rfl rfl ?_ | refine OP.store rfl rfl rfl rfl rfl rfl rfl (by repeat (first | exact UpdM.here rfl | apply UpdM.there)) rfl ?_ | refine OP.buildT rfl rfl rfl rfl ?_ | refine OP.capS rfl rfl rfl rfl rfl rfl ?_)
    | (refine WL.guardT rfl rfl rfl rfl ?_; first | refine OP.decT (nw := true) rfl trivial (by first | omega | assumption) rfl rfl ?_ | refine OP.decF (nw := true) rfl trivial (by first | omega | assumption) rfl rfl ?_ | refine OP.decNT (nw := true) rfl trivial (by first | omega | assumption) rfl rfl ?_ | refine OP.decNF (nw := true) rfl trivial (by first | omega | assumption) rfl rfl ?_ | refine OP.pickT rfl rfl rfl rfl rfl ?_ | refine OP.pickF rfl rfl rfl rfl rfl ?_ | refine OP.pure (nw := true) rfl (by first | exact trivial | (simp only [Holds]; omega) | (simp [Holds]; done) | (simp [Holds]; omega)) rfl rfl ?_ | refine OP.pure (nw := false) rfl trivial rfl rfl ?_ | refine OP.loadN rfl rfl rfl rfl (by repeat (first | exact HasNth.here rfl | apply HasNth.there)) rfl rfl ?_ | refine OP.loadB rfl rfl rfl rfl rfl (by repeat (first | exact HasCut.here rfl | apply HasCut.there)) rfl rfl ?_ | refine OP.buildT rfl rfl rfl rfl ?_)
    | refine WL.guardF rfl rfl rfl rfl rfl rfl ?_ | refine WL.guardU rfl rfl rfl rfl rfl rfl ?_ | refine WL.guarded (nw := true) rfl rfl rfl rfl rfl rfl rfl (by first | exact trivial | (simp only [Holds]; omega) | (simp [Holds]; done) | (simp [Holds]; omega)) ?_)
  repeat (first
    | refine WC.seq ?_ | refine WC.region ?_ | refine WL.nil ?_ | with_reducible refine seqK.go ?_ | refine WC.block ?_ | refine WC.skip ?_ | refine WC.exit ?_ | refine WC.ret ?_
    | with_reducible refine seqK.exit ?_ | with_reducible refine seqK.ret ?_ | (with_reducible refine blockK.hit ?hb ?_; (case hb => rfl)) | (with_reducible refine blockK.miss ?hb ?_; (case hb => rfl)) | with_reducible refine blockK.normal ?_ | with_reducible refine blockK.ret ?_ | with_reducible refine loopK.exit ?_ | with_reducible refine loopK.ret ?_
    | refine WC.condT rfl ?_ | refine WC.condF rfl ?_
    | (refine WL.step rfl ?_; first | refine OP.decT (nw := true) rfl trivial (by first | omega | assumption) rfl rfl ?_ | refine OP.decF (nw := true) rfl trivial (by first | omega | assumption) rfl rfl ?_ | refine OP.decNT (nw := true) rfl trivial (by first | omega | assumption) rfl rfl ?_ | refine OP.decNF (nw := true) rfl trivial (by first | omega | assumption) rfl rfl ?_ | refine OP.pure (nw := true) rfl (by first | exact trivial | (simp only [Holds]; omega) | (simp [Holds]; done) | (simp [Holds]; omega)) rfl rfl ?_ | refine OP.pure (nw := false) rfl (by first | exact trivial | (simp only [Holds]; omega) | (simp [Holds]; done) | (simp [Holds]; omega)) rfl rfl ?_ | refine OP.pickT rfl rfl rfl rfl rfl ?_ | refine OP.pickF rfl rfl rfl rfl rfl ?_ | refine OP.loadN rfl rfl rfl rfl (by repeat (first | exact HasNth.here rfl | apply HasNth.there)) rfl rfl ?_ | refine OP.loadB rfl rfl rfl rfl rfl (by repeat (first | exact HasCut.here rfl | apply HasCut.there)) rfl rfl ?_ | refine OP.store rfl rfl rfl rfl rfl rfl rfl (by repeat (first | exact UpdM.here rfl | apply UpdM.there)) rfl ?_ | refine OP.buildT rfl rfl rfl rfl ?_ | refine OP.capS rfl rfl rfl rfl rfl rfl ?_)
    | (refine WL.guardT rfl rfl rfl rfl ?_; first | refine OP.decT (nw := true) rfl trivial (by first | omega | assumption) rfl rfl ?_ | refine OP.decF (nw := true) rfl trivial (by first | omega | assumption) rfl rfl ?_ | refine OP.decNT (nw := true) rfl trivial (by first | omega | assumption) rfl rfl ?_ | refine OP.decNF (nw := true) rfl trivial (by first | omega | assumption) rfl rfl ?_ | refine OP.pickT rfl rfl rfl rfl rfl ?_ | refine OP.pickF rfl rfl rfl rfl rfl ?_ | refine OP.pure (nw := true) rfl (by first | exact trivial | (simp only [Holds]; omega) | (simp [Holds]; done) | (simp [Holds]; omega)) rfl rfl ?_ | refine OP.pure (nw := false) rfl trivial rfl rfl ?_ | refine OP.loadN rfl rfl rfl rfl (by repeat (first | exact HasNth.here rfl | apply HasNth.there)) rfl rfl ?_ | refine OP.loadB rfl rfl rfl rfl rfl (by repeat (first | exact HasCut.here rfl | apply HasCut.there)) rfl rfl ?_ | refine OP.buildT rfl rfl rfl rfl ?_)
    | refine WL.guardF rfl rfl rfl rfl rfl rfl ?_ | refine WL.guardU rfl rfl rfl rfl rfl rfl ?_ | refine WL.guarded (nw := true) rfl rfl rfl rfl rfl rfl rfl (by first | exact trivial | (simp only [Holds]; omega) | (simp [Holds]; done) | (simp [Holds]; omega)) ?_)
  exact hh.h) : P := s ⟨h⟩
theorem NW {P : Prop} {Q : Nat → Prop} (h : ∀ b, Q b) (s : Hd (∀ b, Q b) → P := by
  intro hh
  refine WL.step rfl ?_
  first | exact OP.alloc rfl rfl rfl rfl rfl hh.h | exact OP.box rfl rfl rfl rfl rfl hh.h | exact OP.sliceLit rfl rfl rfl rfl rfl rfl rfl rfl hh.h) : P := s ⟨h⟩
section
variable {G : Ctx} {N : Nat} {env : Env} {L S : List Assn} {k : Kont} {n : Nat} {fuel : Nat} {listed : Array Bool} {l : List Oper} {o : Oper} {hd : Bool}
def VW (_ : Nat) (Q P : Prop) : Prop := Hd Q → P
theorem VW.q {i d : Nat} {v : Value} (hi : l.toArray[i]? = some o) (hg : o.guard = none) (hs : Region.noSelect l.toArray = true) (hf : Region.free .any l.toArray listed i = true) (hr : (Region.ready .any l.toArray listed).contains i = true)
    (hk : ∀ c env L, ¬ k (.panic c) env L) (hin : (Nat.blt i n && tailI l.toArray n i) = true) (hq : Quiet G N env S o v) (hdst : o.dst = some d) (hN : Nat.blt d N = true) :
    VW i (WH G N l.toArray n S true fuel (listed.setIfInBounds i true) ((d, .val v) :: env) L k) (WH G N l.toArray n S true (fuel + 1) listed env L k) := fun h => WH.q i hi hg hs hf hr hk hin hq hdst hN h.h
theorem VW.gT {i j jt d : Nat} {want : Bool} {oj : Oper} {v : Value} (hi : l.toArray[i]? = some o) (hg : o.guard = some (j, want)) (hj : l.toArray[j]? = some oj) (hjt : oj.dst = some jt) (hw : gdOf env jt want = some true)
    (hs : Region.noSelect l.toArray = true) (hf : Region.free .any l.toArray listed i = true) (hr : (Region.ready .any l.toArray listed).contains i = true)
    (hk : ∀ c env L, ¬ k (.panic c) env L) (hin : (Nat.blt i n && tailI l.toArray n i) = true) (hq : Quiet G N env S o v) (hdst : o.dst = some d) (hN : Nat.blt d N = true) :
    VW i (WH G N l.toArray n S true fuel (listed.setIfInBounds i true) ((d, .val v) :: env) L k) (WH G N l.toArray n S true (fuel + 1) listed env L k) := fun h => WH.gT i hi hg hj hjt hw hs hf hr hk hin hq hdst hN h.h
theorem VW.gF {i j jt d : Nat} {want : Bool} {oj : Oper} (hi : l.toArray[i]? = some o) (hg : o.guard = some (j, want)) (hj : l.toArray[j]? = some oj) (hjt : oj.dst = some jt) (hw : gdNo env jt want = true)
    (hs : Region.noSelect l.toArray = true) (hf : Region.free .any l.toArray listed i = true) (hr : (Region.ready .any l.toArray listed).contains i = true)
    (hk : ∀ c env L, ¬ k (.panic c) env L) (hin : (Nat.blt i n && tailI l.toArray n i) = true) (hdst : o.dst = some d) (hN : Nat.blt d N = true) :
    VW i (WH G N l.toArray n S true fuel (listed.setIfInBounds i true) ((d, .val undef) :: env) L k) (WH G N l.toArray n S true (fuel + 1) listed env L k) := fun h => WH.gF i hi hg hj hjt hw hs hf hr hk hin hdst hN h.h
theorem sat_nil (w : World) : Sat [] w := trivial
/-- what reads no memory: it may come whenever it likes -/
theorem VW.q0 {i d : Nat} {v : Value} (hi : l.toArray[i]? = some o) (hg : o.guard = none) (hs : Region.noSelect l.toArray = true) (hf : Region.free .any l.toArray listed i = true) (hr : (Region.ready .any l.toArray listed).contains i = true)
    (hk : ∀ c env L, ¬ k (.panic c) env L) (hH : (!hd || Nat.blt i n || phB listed n) = true) (hq : Quiet G N env [] o v) (hdst : o.dst = some d) (hN : Nat.blt d N = true) :
    VW i (WH G N l.toArray n S hd fuel (listed.setIfInBounds i true) ((d, .val v) :: env) L k) (WH G N l.toArray n S hd (fuel + 1) listed env L k) := fun h => .mk fun a w ha hsat hS hcl => by
  have hri : i ∈ Region.ready .any l.toArray listed := by simpa using hr
  refine wpB_pure (R := fun _ => True) hH hi (Region.noSelect_spec hs) (fun c a w => noPanic hk c a w _ _) (fun _ => trivial) fuel a w hcl (Region.free_spec hi hf) hri
    (.inl ⟨by simp [Region.wanted, hg], fun w _ => hq.run a w ha (sat_nil w)⟩) hS ?_
  rw [hdst]; exact h.h.go _ w (ha.put hN v) hsat hS (hcl.set hri)
theorem VW.gT0 {i j jt d : Nat} {want : Bool} {oj : Oper} {v : Value} (hi : l.toArray[i]? = some o) (hg : o.guard = some (j, want)) (hj : l.toArray[j]? = some oj) (hjt : oj.dst = some jt) (hw : gdOf env jt want = some true)
    (hs : Region.noSelect l.toArray = true) (hf : Region.free .any l.toArray listed i = true) (hr : (Region.ready .any l.toArray listed).contains i = true)
    (hk : ∀ c env L, ¬ k (.panic c) env L) (hH : (!hd || Nat.blt i n || phB listed n) = true) (hq : Quiet G N env [] o v) (hdst : o.dst = some d) (hN : Nat.blt d N = true) :
    VW i (WH G N l.toArray n S hd fuel (listed.setIfInBounds i true) ((d, .val v) :: env) L k) (WH G N l.toArray n S hd (fuel + 1) listed env L k) := fun h => .mk fun a w ha hsat hS hcl => by
  have hri : i ∈ Region.ready .any l.toArray listed := by simpa using hr
  have hw := gdOf_ok (ops := l.toArray) ha hw hj hjt hg
  refine wpB_pure (R := fun _ => True) hH hi (Region.noSelect_spec hs) (fun c a w => noPanic hk c a w _ _) (fun _ => trivial) fuel a w hcl (Region.free_spec hi hf) hri
    (.inl ⟨hw, fun w _ => hq.run a w ha (sat_nil w)⟩) hS ?_
  rw [hdst]; exact h.h.go _ w (ha.put hN v) hsat hS (hcl.set hri)
theorem VW.gF0 {i j jt d : Nat} {want : Bool} {oj : Oper} (hi : l.toArray[i]? = some o) (hg : o.guard = some (j, want)) (hj : l.toArray[j]? = some oj) (hjt : oj.dst = some jt) (hw : gdNo env jt want = true)
    (hs : Region.noSelect l.toArray = true) (hf : Region.free .any l.toArray listed i = true) (hr : (Region.ready .any l.toArray listed).contains i = true)
    (hk : ∀ c env L, ¬ k (.panic c) env L) (hH : (!hd || Nat.blt i n || phB listed n) = true) (hdst : o.dst = some d) (hN : Nat.blt d N = true) :
    VW i (WH G N l.toArray n S hd fuel (listed.setIfInBounds i true) ((d, .val undef) :: env) L k) (WH G N l.toArray n S hd (fuel + 1) listed env L k) := fun h => .mk fun a w ha hsat hS hcl => by
  have hri : i ∈ Region.ready .any l.toArray listed := by simpa using hr
  have hw := gdNo_ok (ops := l.toArray) ha hw hj hjt hg
  refine wpB_pure (R := fun _ => True) (v := undef) hH hi (Region.noSelect_spec hs) (fun c a w => noPanic hk c a w _ _) (fun _ => trivial) fuel a w hcl (Region.free_spec hi hf) hri
    (.inr ⟨hw, rfl⟩) hS ?_
  rw [hdst]; exact h.h.go _ w (ha.put hN _) hsat hS (hcl.set hri)
theorem VW.pure {i d : Nat} {nw : Bool} {c : Option Prop} {v : Value} (hi : l.toArray[i]? = some o) (hg : o.guard = none) (hs : Region.noSelect l.toArray = true) (hf : Region.free .any l.toArray listed i = true) (hr : (Region.ready .any l.toArray listed).contains i = true)
    (hk : ∀ c env L, ¬ k (.panic c) env L) (hH : (!hd || Nat.blt i n || phB listed n) = true) (he : ev G.T nw none env o.op = some (c, v)) (hc : Holds c) (hdst : o.dst = some d) (hN : Nat.blt d N = true) :
    VW i (WH G N l.toArray n S hd fuel (listed.setIfInBounds i true) ((d, .val v) :: env) L k) (WH G N l.toArray n S hd (fuel + 1) listed env L k) := fun h => WH.pure i hi hg hs hf hr hk hH he hc hdst hN h.h

theorem VV (i : Nat) {P Q : Prop} (h : Q) (s : VW i Q P := by first | exact VW.q rfl rfl (by kernel_rfl) (by kernel_rfl) (by kernel_rfl) (fun _ _ _ h => h) (by kernel_rfl) (Quiet.pickT rfl rfl rfl) rfl rfl | exact VW.q rfl rfl (by kernel_rfl) (by kernel_rfl) (by kernel_rfl) (fun _ _ _ h => h) (by kernel_rfl) (Quiet.pickF rfl rfl rfl) rfl rfl | exact VW.q rfl rfl (by kernel_rfl) (by kernel_rfl) (by kernel_rfl) (fun _ _ _ h => h) (by kernel_rfl) (Quiet.pure (nw := true) rfl (by first | exact trivial | (simp only [Holds]; omega) | (simp [Holds]; done) | (simp [Holds]; omega))) rfl rfl | exact VW.q rfl rfl (by kernel_rfl) (by kernel_rfl) (by kernel_rfl) (fun _ _ _ h => h) (by kernel_rfl) (Quiet.pure (nw := false) rfl (by first | exact trivial | (simp only [Holds]; omega) | (simp [Holds]; done) | (simp [Holds]; omega))) rfl rfl | exact VW.q rfl rfl (by kernel_rfl) (by kernel_rfl) (by kernel_rfl) (fun _ _ _ h => h) (by kernel_rfl) (Quiet.load rfl rfl rfl (.inl ⟨rfl, HasNth.ent (by repeat (first | exact HasNth.here rfl | apply HasNth.there))⟩)) rfl rfl | exact VW.q rfl rfl (by kernel_rfl) (by kernel_rfl) (by kernel_rfl) (fun _ _ _ h => h) (by kernel_rfl) (Quiet.load rfl rfl rfl (loads_cut rfl rfl (by repeat (first | exact HasCut.here rfl | apply HasCut.there)))) rfl rfl | exact VW.gT rfl rfl rfl rfl rfl (by kernel_rfl) (by kernel_rfl) (by kernel_rfl) (fun _ _ _ h => h) (by kernel_rfl) (Quiet.pickT rfl rfl rfl) rfl rfl | exact VW.gT rfl rfl rfl rfl rfl (by kernel_rfl) (by kernel_rfl) (by kernel_rfl) (fun _ _ _ h => h) (by kernel_rfl) (Quiet.pickF rfl rfl rfl) rfl rfl | exact VW.gT rfl rfl rfl rfl rfl (by kernel_rfl) (by kernel_rfl) (by kernel_rfl) (fun _ _ _ h => h) (by kernel_rfl) (Quiet.pure (nw := true) rfl (by first | exact trivial | (simp only [Holds]; omega) | (simp [Holds]; done) | (simp [Holds]; omega))) rfl rfl | exact VW.gT rfl rfl rfl rfl rfl (by kernel_rfl) (by kernel_rfl) (by kernel_rfl) (fun _ _ _ h => h) (by kernel_rfl) (Quiet.pure (nw := false) rfl (by first | exact trivial | (simp only [Holds]; omega) | (simp [Holds]; done) | (simp [Holds]; omega))) rfl rfl | exact VW.gT rfl rfl rfl rfl rfl (by kernel_rfl) (by kernel_rfl) (by kernel_rfl) (fun _ _ _ h => h) (by kernel_rfl) (Quiet.load rfl rfl rfl (.inl ⟨rfl, HasNth.ent (by repeat (first | exact HasNth.here rfl | apply HasNth.there))⟩)) rfl rfl | exact VW.gT rfl rfl rfl rfl rfl (by kernel_rfl) (by kernel_rfl) (by kernel_rfl) (fun _ _ _ h => h) (by kernel_rfl) (Quiet.load rfl rfl rfl (loads_cut rfl rfl (by repeat (first | exact HasCut.here rfl | apply HasCut.there)))) rfl rfl | exact VW.gF rfl rfl rfl rfl rfl (by kernel_rfl) (by kernel_rfl) (by kernel_rfl) (fun _ _ _ h => h) (by kernel_rfl) rfl rfl) : P := s ⟨h⟩
theorem WP (i : Nat) {P Q : Prop} (h : Q) (s : VW i Q P := by first | exact VW.q0 rfl rfl (by kernel_rfl) (by kernel_rfl) (by kernel_rfl) (fun _ _ _ h => h) (by kernel_rfl) (Quiet.pickT rfl rfl rfl) rfl rfl | exact VW.q0 rfl rfl (by kernel_rfl) (by kernel_rfl) (by kernel_rfl) (fun _ _ _ h => h) (by kernel_rfl) (Quiet.pickF rfl rfl rfl) rfl rfl | exact VW.q0 rfl rfl (by kernel_rfl) (by kernel_rfl) (by kernel_rfl) (fun _ _ _ h => h) (by kernel_rfl) (Quiet.pure (nw := true) rfl (by first | exact trivial | (simp only [Holds]; omega) | (simp [Holds]; done) | (simp [Holds]; omega))) rfl rfl | exact VW.q0 rfl rfl (by kernel_rfl) (by kernel_rfl) (by kernel_rfl) (fun _ _ _ h => h) (by kernel_rfl) (Quiet.pure (nw := false) rfl (by first | exact trivial | (simp only [Holds]; omega) | (simp [Holds]; done) | (simp [Holds]; omega))) rfl rfl | exact VW.gT0 rfl rfl rfl rfl rfl (by kernel_rfl) (by kernel_rfl) (by kernel_rfl) (fun _ _ _ h => h) (by kernel_rfl) (Quiet.pickT rfl rfl rfl) rfl rfl | exact VW.gT0 rfl rfl rfl rfl rfl (by kernel_rfl) (by kernel_rfl) (by kernel_rfl) (fun _ _ _ h => h) (by kernel_rfl) (Quiet.pickF rfl rfl rfl) rfl rfl | exact VW.gT0 rfl rfl rfl rfl rfl (by kernel_rfl) (by kernel_rfl) (by kernel_rfl) (fun _ _ _ h => h) (by kernel_rfl) (Quiet.pure (nw := true) rfl (by first | exact trivial | (simp only [Holds]; omega) | (simp [Holds]; done) | (simp [Holds]; omega))) rfl rfl | exact VW.gT0 rfl rfl rfl rfl rfl (by kernel_rfl) (by kernel_rfl) (by kernel_rfl) (fun _ _ _ h => h) (by kernel_rfl) (Quiet.pure (nw := false) rfl (by first | exact trivial | (simp only [Holds]; omega) | (simp [Holds]; done) | (simp [Holds]; omega))) rfl rfl | exact VW.gF0 rfl rfl rfl rfl rfl (by kernel_rfl) (by kernel_rfl) (by kernel_rfl) (fun _ _ _ h => h) (by kernel_rfl) rfl rfl) : P := s ⟨h⟩
theorem VF (i : Nat) {P Q : Prop} (h : Q) (s : VW i Q P := by exact VW.gF0 rfl rfl rfl rfl rfl (by kernel_rfl) (by kernel_rfl) (by kernel_rfl) (fun _ _ _ h => h) (by kernel_rfl) rfl rfl) : P := s ⟨h⟩
theorem WW (i : Nat) {P Q : Prop} (h : Q) (s : VW i Q P := by first | exact VW.pure (nw := true) rfl rfl (by kernel_rfl) (by kernel_rfl) (by kernel_rfl) (fun _ _ _ h => h) (by kernel_rfl) rfl (by first | exact trivial | (simp only [Holds]; omega) | (simp [Holds]; done) | (simp [Holds]; omega)) rfl rfl | exact VW.pure (nw := false) rfl rfl (by kernel_rfl) (by kernel_rfl) (by kernel_rfl) (fun _ _ _ h => h) (by kernel_rfl) rfl (by first | exact trivial | (simp only [Holds]; omega) | (simp [Holds]; done) | (simp [Holds]; omega)) rfl rfl | exact VW.q rfl rfl (by kernel_rfl) (by kernel_rfl) (by kernel_rfl) (fun _ _ _ h => h) (by kernel_rfl) (Quiet.load rfl rfl rfl (.inl ⟨rfl, HasNth.ent (by repeat (first | exact HasNth.here rfl | apply HasNth.there))⟩)) rfl rfl | exact VW.q rfl rfl (by kernel_rfl) (by kernel_rfl) (by kernel_rfl) (fun _ _ _ h => h) (by kernel_rfl) (Quiet.load rfl rfl rfl (loads_cut rfl rfl (by repeat (first | exact HasCut.here rfl | apply HasCut.there)))) rfl rfl) : P := s ⟨h⟩
theorem VQ (i : Nat) {d : Nat} {v : Value} (hi : l.toArray[i]? = some o) (hq : Quiet G N env S o v) (h : WH G N l.toArray n S true fuel (listed.setIfInBounds i true) ((d, .val v) :: env) L k)
    (hg : o.guard = none := by rfl) (hs : Region.noSelect l.toArray = true := by kernel_rfl) (hf : Region.free .any l.toArray listed i = true := by kernel_rfl) (hr : (Region.ready .any l.toArray listed).contains i = true := by kernel_rfl)
    (hk : ∀ c env L, ¬ k (.panic c) env L := by exact (fun _ _ _ h => h)) (hin : (Nat.blt i n && tailI l.toArray n i) = true := by kernel_rfl) (hdst : o.dst = some d := by rfl) (hN : Nat.blt d N = true := by rfl) : WH G N l.toArray n S true (fuel + 1) listed env L k := WH.q i hi hg hs hf hr hk hin hq hdst hN h
theorem VG (i : Nat) {j jt d : Nat} {want : Bool} {oj : Oper} {v : Value} (hi : l.toArray[i]? = some o) (hq : Quiet G N env S o v) (h : WH G N l.toArray n S true fuel (listed.setIfInBounds i true) ((d, .val v) :: env) L k)
    (hg : o.guard = some (j, want) := by rfl) (hj : l.toArray[j]? = some oj := by rfl) (hjt : oj.dst = some jt := by rfl) (hw : gdOf env jt want = some true := by rfl)
    (hs : Region.noSelect l.toArray = true := by kernel_rfl) (hf : Region.free .any l.toArray listed i = true := by kernel_rfl) (hr : (Region.ready .any l.toArray listed).contains i = true := by kernel_rfl)
    (hk : ∀ c env L, ¬ k (.panic c) env L := by exact (fun _ _ _ h => h)) (hin : (Nat.blt i n && tailI l.toArray n i) = true := by kernel_rfl) (hdst : o.dst = some d := by rfl) (hN : Nat.blt d N = true := by rfl) : WH G N l.toArray n S true (fuel + 1) listed env L k := WH.gT i hi hg hj hjt hw hs hf hr hk hin hq hdst hN h
theorem VL (i : Nat) (v : Value) {d : Nat} {t : TypeId} {x : Operand} {b off : Nat} {ti : TI} (hi : l.toArray[i]? = some o) (ho : o.op = .load t x) (hx : rd none env x = some (none, .pointer (some ⟨b, off, none⟩))) (hti : G.T.find t = some ti) (hv : Loads S ti b off v)
    (h : WH G N l.toArray n S true fuel (listed.setIfInBounds i true) ((d, .val v) :: env) L k)
    (hg : o.guard = none := by rfl) (hs : Region.noSelect l.toArray = true := by kernel_rfl) (hf : Region.free .any l.toArray listed i = true := by kernel_rfl) (hr : (Region.ready .any l.toArray listed).contains i = true := by kernel_rfl)
    (hk : ∀ c env L, ¬ k (.panic c) env L := by exact (fun _ _ _ h => h)) (hin : (Nat.blt i n && tailI l.toArray n i) = true := by kernel_rfl) (hdst : o.dst = some d := by rfl) (hN : Nat.blt d N = true := by rfl) : WH G N l.toArray n S true (fuel + 1) listed env L k := WH.load i hi hg hs hf hr hk hin ho hx hti hv hdst hN h
theorem RD {id : Nat} (n m : Nat) (S : List Assn) (h : WH G N l.toArray n S true m (Array.replicate m false) env L k) (hm : l.length = m := by rfl) (hS : Imp L S := by first | exact Imp.refl _ | exact (Imp.sub (by repeat (first | exact Picks.nil _ | apply Picks.cons | exact Pick.here _ _ | apply Pick.there)))) : WC G N (.region id l.toArray true) env L k := WC.regionE n m S hm hS h
theorem DN (h : k .normal env L) (hr : Region.ready .any l.toArray listed = [] := by kernel_rfl) : WH G N l.toArray n S hd fuel listed env L k := WH.done hr h
end
end Go.GL
