/- Contracts of functions of the given program, and plain laws: parts of the proofs of laws. -/
import Derived.Test.YtanjfjiaheghcaaGreatDoorZPX1
import Derived.Deep.LoopGhost
/- The judgements of a walk: a list of operations, a piece of code, a call; and their rules. -/
namespace Go.GL
open Go

abbrev Kont := Exit → Env → List Assn → Prop
def lift (N : Nat) (k : Kont) : Exit → Act → World → Prop := fun e a w => ∃ env L, Agree N env a ∧ Sat L w ∧ k e env L

/-- One operation. -/
structure OP (G : Ctx) (N : Nat) (o : Oper) (env : Env) (L : List Assn) (post : Env → List Assn → Prop) : Prop where
  go : ∀ a w, Agree N env a → Sat L w → o.wp G.P a w (fun a' w' => ∃ env' L', Agree N env' a' ∧ Sat L' w' ∧ post env' L') (fun _ _ _ => False)
instance (G : Ctx) (N : Nat) (o : Oper) (env : Env) (L : List Assn) (post : Env → List Assn → Prop) : CoeFun (OP G N o env L post) (fun _ => ∀ a w, Agree N env a → Sat L w → o.wp G.P a w (fun a' w' => ∃ env' L', Agree N env' a' ∧ Sat L' w' ∧ post env' L') (fun _ _ _ => False)) := ⟨OP.go⟩
/-- A list of operations, in its order. -/
structure WL (G : Ctx) (N : Nat) (ops : Array Oper) (rest : List Oper) (env : Env) (L : List Assn) (k : Kont) : Prop where
  go : ∀ a w, Agree N env a → Sat L w → wpList G.P ops (lift N k) rest a w
instance (G : Ctx) (N : Nat) (ops : Array Oper) (rest : List Oper) (env : Env) (L : List Assn) (k : Kont) : CoeFun (WL G N ops rest env L k) (fun _ => ∀ a w, Agree N env a → Sat L w → wpList G.P ops (lift N k) rest a w) := ⟨WL.go⟩
/-- A piece of code. -/
structure WC (G : Ctx) (N : Nat) (c : Code) (env : Env) (L : List Assn) (k : Kont) : Prop where
  go : ∀ a w, Agree N env a → Sat L w → c.wp G.P (lift N k) a w
instance (G : Ctx) (N : Nat) (c : Code) (env : Env) (L : List Assn) (k : Kont) : CoeFun (WC G N c env L k) (fun _ => ∀ a w, Agree N env a → Sat L w → c.wp G.P (lift N k) a w) := ⟨WC.go⟩

theorem wp_oper_mono {P : Program} {o : Oper} {a : Act} {w : World} {n n' : Act → World → Prop} {Q Q' : Exit → Act → World → Prop} (hn : ∀ a w, n a w → n' a w) (hq : ∀ e a w, Q e a w → Q' e a w)
    (h : o.wp P a w n Q) : o.wp P a w n' Q' := by
  unfold Oper.wp at *
  generalize (execOp a.eval o).run P w = r at *
  cases r with
  | ok x w' =>
    cases x <;> simp only [Oper.upon] at h ⊢ <;> first | (exact hn _ _ h) | (exact h.elim) | skip
    · refine h.mono fun e w'' he => ?_
      cases e with
      | returned v => exact hn _ _ he
      | panicked c => exact hq _ _ _ he
      | outgrown => obtain ⟨a, w, x⟩ := he; exact ⟨a, w, hq _ _ _ x⟩
    · exact h.mono fun v w'' he => hn _ _ he
  | halt x w' =>
    cases x <;> simp only [Oper.upon] at h ⊢ <;> first | exact hq _ _ _ h | exact h.elim

theorem OP.mono {G : Ctx} {N : Nat} {o : Oper} {env : Env} {L : List Assn} {p p' : Env → List Assn → Prop} (h : OP G N o env L p) (f : ∀ e M, p e M → p' e M) : OP G N o env L p' :=
  .mk fun a w ha hs => wp_oper_mono (fun _ _ ⟨e, M, x, y, z⟩ => ⟨e, M, x, y, f _ _ z⟩) (fun _ _ _ h => h) (h a w ha hs)
theorem OP.imp {G : Ctx} {N : Nat} {o : Oper} {env : Env} {L M : List Assn} {p : Env → List Assn → Prop} (i : Imp L M) (h : OP G N o env M p) : OP G N o env L p :=
  .mk fun a w ha hs => h a w ha (i.sat hs)
theorem WC.imp {G : Ctx} {N : Nat} {c : Code} {env : Env} {L M : List Assn} {k : Kont} (i : Imp L M) (h : WC G N c env M k) : WC G N c env L k :=
  .mk fun a w ha hs => h a w ha (i.sat hs)
theorem WL.imp {G : Ctx} {N : Nat} {ops : Array Oper} {rest : List Oper} {env : Env} {L M : List Assn} {k : Kont} (i : Imp L M) (h : WL G N ops rest env M k) : WL G N ops rest env L k :=
  .mk fun a w ha hs => h a w ha (i.sat hs)
theorem WC.sub {G : Ctx} {N : Nat} {c : Code} {env env' : Env} {L : List Assn} {k : Kont} (s : SubEnv env' env) (h : WC G N c env' L k) : WC G N c env L k :=
  .mk fun a w ha hs => h a w (ha.sub s) hs
theorem WL.sub {G : Ctx} {N : Nat} {ops : Array Oper} {rest : List Oper} {env env' : Env} {L : List Assn} {k : Kont} (s : SubEnv env' env) (h : WL G N ops rest env' L k) : WL G N ops rest env L k :=
  .mk fun a w ha hs => h a w (ha.sub s) hs
theorem lift_mono {N : Nat} {k k' : Kont} (f : ∀ e env L, k e env L → k' e env L) (e : Exit) (a : Act) (w : World) (h : lift N k e a w) : lift N k' e a w :=
  let ⟨env, L, x, y, z⟩ := h
  ⟨env, L, x, y, f _ _ _ z⟩
theorem WC.mono {G : Ctx} {N : Nat} {c : Code} {env : Env} {L : List Assn} {k k' : Kont} (h : WC G N c env L k) (f : ∀ e env L, k e env L → k' e env L) : WC G N c env L k' :=
  .mk fun a w ha hs => Code.wp_mono (lift_mono f) (h a w ha hs)

section
variable {G : Ctx} {N : Nat} {env : Env} {L : List Assn} {k : Kont} {ops : Array Oper} {rest : List Oper} {o : Oper}

/-! ### code -/
def seqK (G : Ctx) (N : Nat) (y : Code) (k : Kont) : Kont
  | .normal, env, L => WC G N y env L k
  | e, env, L => k e env L
theorem WC.seq {x y : Code} (h : WC G N x env L (seqK G N y k)) : WC G N (.seq x y) env L k := .mk fun a w ha hs =>
  wp_seq (Code.wp_mono (fun e a w ⟨env, L, x, s, z⟩ => by
    cases e with
    | normal => exact WC.go z a w x s
    | _ => exact ⟨env, L, x, s, z⟩) (h a w ha hs))
theorem seqK.go {y : Code} (h : WC G N y env L k) : seqK G N y k .normal env L := h
theorem WC.skip (h : k .normal env L) : WC G N .skip env L k := .mk fun _ _ ha hs => wp_skip ⟨env, L, ha, hs, h⟩
theorem WC.label {l : Nat} (h : k .normal env L) : WC G N (.label l) env L k := .mk fun _ _ ha hs => wp_label ⟨env, L, ha, hs, h⟩
theorem WC.ret (h : k .ret env L) : WC G N .ret env L k := .mk fun _ _ ha hs => wp_ret ⟨env, L, ha, hs, h⟩
theorem WC.exit {id : Nat} (h : k (.exit id) env L) : WC G N (.exit id) env L k := .mk fun _ _ ha hs => wp_exit ⟨env, L, ha, hs, h⟩
def blockK (id : Nat) (k : Kont) : Kont
  | .exit i, env, L => match Nat.beq i id with
    | true => k .normal env L
    | false => k (.exit i) env L
  | e, env, L => k e env L
theorem WC.block {id : Nat} {c : Code} (h : WC G N c env L (blockK id k)) : WC G N (.block id c) env L k := .mk fun a w ha hs =>
  wp_block (Code.wp_mono (fun e a w ⟨env, L, x, s, z⟩ => by
    cases e with
    | exit i =>
      simp only [blockK] at z
      simp only [Exit.inBlock]
      split at z
      · rename_i hb; rw [if_pos (Nat.eq_of_beq_eq_true hb)]; exact ⟨env, L, x, s, z⟩
      · rename_i hb; rw [if_neg (Nat.ne_of_beq_eq_false hb)]; exact ⟨env, L, x, s, z⟩
    | _ => exact ⟨env, L, x, s, z⟩) (h a w ha hs))
theorem WC.cond {c : Operand} {x y : Code} {b : Bool} (hc : rd none env c = some (none, .bool b)) (ht : b = true → WC G N x env L k) (hf : b = false → WC G N y env L k) : WC G N (.cond c x y) env L k := .mk fun a w ha hs =>
  wp_cond_split (rd_ok ha hc trivial trivial) (fun e => ht e a w ha hs) (fun e => hf e a w ha hs)
def loopK (next : Env → List Assn → Prop) (k : Kont) : Kont
  | .normal, env, L => next env L
  | e, env, L => k e env L
/-- A loop: what holds of the state at each round's head is told by an index. -/
theorem WC.loop {c : Code} {σ : Type} (I : σ → Prop) (E : σ → Env) (M : σ → List Assn) (μ : σ → Nat) (s0 : σ) (h0 : I s0) (hE : SubEnv (E s0) env) (hL : Imp L (M s0))
    (round : ∀ s, I s → WC G N c (E s) (M s) (loopK (fun env' L' => ∃ s', I s' ∧ μ s' < μ s ∧ SubEnv (E s') env' ∧ Imp L' (M s')) k)) : WC G N (.loop c) env L k := .mk fun a w ha hs =>
  wp_loop_ghost (fun n a w => ∃ s, μ s = n ∧ I s ∧ Agree N (E s) a ∧ Sat (M s) w) (μ s0) ⟨s0, rfl, h0, ha.sub hE, hL.sat hs⟩ (fun n a w ⟨s, hn, hI, hx, hy⟩ =>
    Code.wp_mono (fun e a w ⟨env, L, x, y, z⟩ => by
      cases e with
      | normal => obtain ⟨s', h1, h2, h3, h4⟩ := z; exact ⟨μ s', hn ▸ h2, s', rfl, h1, x.sub h3, h4.sat y⟩
      | _ => exact ⟨env, L, x, y, z⟩) (round s hI a w hx hy))

/-! ### regions -/
theorem WC.region {id : Nat} {l : List Oper} (h : WL G N l.toArray l env L k) : WC G N (.region id l.toArray false) env L k := .mk fun a w ha hs => wp_region_lit (h a w ha hs)
theorem WL.nil (h : k .normal env L) : WL G N ops [] env L k := .mk fun _ _ ha hs => ⟨env, L, ha, hs, h⟩
theorem WL.step (hg : o.guard = none) (h : OP G N o env L (fun e M => WL G N ops rest e M k)) : WL G N ops (o :: rest) env L k := .mk fun a w ha hs => by
  unfold wpList
  rw [if_pos (by simp [Region.wanted, hg])]
  exact .inl (wp_oper_mono (fun a w ⟨e, M, x, y, z⟩ => z a w x y) (fun _ _ _ h => h.elim) (h a w ha hs))
/-- What a guard's temporary tells: the condition under which the operation is carried out. -/
def gdOf (env : Env) (t : Nat) (want : Bool) : Option Bool :=
  match want, Env.get env t with
  | true, some (.val (.bool g)) => some g
  | false, some (.val (.bool g)) => some (!g)
  | true, some (.grd p (.bool g)) => some (p && g)
  | false, some (.grd p (.bool g)) => some (p && !g)
  | _, _ => none
theorem gdOf_ok {a : Act} (ha : Agree N env a) {t : Nat} {want q : Bool} (h : gdOf env t want = some q) {j : Nat} {oj : Oper} (hj : ops[j]? = some oj) (hd : oj.dst = some t) (hg : o.guard = some (j, want)) :
    Region.wanted o (yielded ops a.tmps) = q := by
  simp only [Region.wanted, hg, yielded, hj, hd, Option.bind_some]
  unfold gdOf at h
  split at h
  · rename_i g hs
    cases h
    have := ha.at_ _ _ hs
    simp only [Slot.fits] at this
    rw [this]
    cases q <;> rfl
  · rename_i g hs
    cases h
    have := ha.at_ _ _ hs
    simp only [Slot.fits] at this
    rw [this]
    cases g <;> rfl
  · rename_i p g hs
    cases h
    have := ha.at_ _ _ hs
    simp only [Slot.fits] at this
    rw [this]
    cases p <;> cases g <;> rfl
  · rename_i p g hs
    cases h
    have := ha.at_ _ _ hs
    simp only [Slot.fits] at this
    rw [this]
    cases p <;> cases g <;> rfl
  · cases h
theorem WL.guarded {j t d : Nat} {want q nw : Bool} {oj : Oper} {c : Option Prop} {v : Value} (hg : o.guard = some (j, want)) (hj : ops[j]? = some oj) (ht : oj.dst = some t) (hq : gdOf env t want = some q)
    (hd : o.dst = some d) (hN : Nat.blt d N = true) (he : ev G.T nw (some q) env o.op = some (c, v)) (hc : Holds c) (h : WL G N ops rest ((d, .grd q v) :: env) L k) : WL G N ops (o :: rest) env L k := .mk fun a w ha hs => by
  have hw := gdOf_ok ha hq hj ht hg
  unfold wpList
  rw [hw]
  cases q with
  | true =>
    rw [if_pos rfl]
    refine .inl ?_
    unfold Oper.wp
    rw [ev_ok G.ok he hc rfl ha w]
    simp only [Oper.upon, hd]
    exact h _ w (ha.grd hN rfl) hs
  | false =>
    rw [if_neg (by simp), hd]
    exact h _ w (ha.grd hN rfl) hs
/-! ### operations -/
variable {post : Env → List Assn → Prop} {d : Nat}
theorem OP.run {v : Value} (hr : ∀ a w, Agree N env a → Sat L w → (execOp a.eval o).run G.P w = .ok (.value v) w) (hd : o.dst = some d) (hN : Nat.blt d N = true) (h : post ((d, .val v) :: env) L) : OP G N o env L post := .mk fun a w ha hs => by
  unfold Oper.wp
  rw [hr a w ha hs]
  simp only [Oper.upon, hd]
  exact ⟨_, L, ha.put hN v, hs, h⟩
theorem OP.pure {nw : Bool} {c : Option Prop} {v : Value} (he : ev G.T nw none env o.op = some (c, v)) (hc : Holds c) (hd : o.dst = some d) (hN : Nat.blt d N = true) (h : post ((d, .val v) :: env) L) : OP G N o env L post :=
  .run (fun _ w ha _ => ev_ok G.ok he hc trivial ha w) hd hN h
theorem OP.pureEq {nw : Bool} {c : Option Prop} {v v' : Value} (he : ev G.T nw none env o.op = some (c, v)) (hc : Holds c) (hv : v = v') (hd : o.dst = some d) (hN : Nat.blt d N = true) (h : post ((d, .val v') :: env) L) : OP G N o env L post :=
  .pure he hc hd hN (hv ▸ h)

theorem rd_plain {x : Operand} {v : Value} (h : rd none env x = some (none, v)) {a : Act} (ha : Agree N env a) : a.eval x = v := rd_ok ha h trivial trivial
/-- a load of one cell -/
theorem OP.load1 {t : TypeId} {x : Operand} {b off : Nat} {ti : TI} {v : Value} (ho : o.op = .load t x) (hx : rd none env x = some (none, .pointer (some ⟨b, off, none⟩))) (ht : G.T.find t = some ti) (hg : ti.agg = false)
    (hv : Ent L (cellAt b off v)) (hd : o.dst = some d) (hN : Nat.blt d N = true) (h : post ((d, .val v) :: env) L) : OP G N o env L post :=
  .run (fun a w ha hs => by
    have e := Tab.find_ok G.ok ht
    rw [execOp, ho]
    refine val_run ?_
    have hc := cell_of_cellAt (hv _ hs)
    simp [Instr.loadAt, rd_plain hx ha, Instr.sureAddr, loadVar, run_isAgg e, hg, hc]) hd hN h

/-! ### memory -/
/-- Cells side by side. -/
def cellsAt (b off : Nat) (l : List Value) : Assn := fun h => ∃ (c : Array Value) (T : TypeId) (fr : Nat × Nat), h (b + 1) = some (.obj (.cells c T fr)) ∧ ∀ i v, l[i]? = some v → c[off + i]? = some v
theorem up_cellsAt (b off : Nat) (l : List Value) : Up (cellsAt b off l) := fun _ _ le ⟨c, T, fr, e, f⟩ => ⟨c, T, fr, le _ _ e, f⟩
theorem Ent.cells {b : Nat} {c : List Value} {T : TypeId} {off n : Nat} {l : List Value} (m : GL.blk b c T ∈ L) (e : cutL c off n = some l) : Ent L (cellsAt b off l) :=
  Ent.mem m (up_blk b c T) fun h ⟨fr, hb, _⟩ => ⟨_, T, fr, hb, fun i v hi => by
    obtain ⟨h1, h2⟩ := cutL_eq e
    rw [h1] at hi
    have := List.getElem?_take (l := c.drop off) (i := n) (j := i)
    rw [this] at hi
    split at hi
    · simpa using hi
    · cases hi⟩
theorem cellsAt_get {w : World} {b off : Nat} {l : List Value} (h : cellsAt b off l (hpOf w)) {i : Nat} {v : Value} (hi : l[i]? = some v) : w.cell? ⟨b, off + i, none⟩ = some v := by
  obtain ⟨c, T, fr, e, f⟩ := h
  exact cell_of_cellAt ⟨c, T, fr, e, f i v hi⟩
theorem run_cells {P : Program} {w : World} {b off : Nat} {l : List Value} (h : cellsAt b off l (hpOf w)) : ∀ (n i : Nat) (acc : Array Value), i + n = l.length →
    (loadCellsFrom ⟨b, off, none⟩ i n acc).run P w = .ok (acc ++ (l.drop i).toArray) w
  | 0, i, acc, hn => by
    have : l.drop i = [] := List.drop_eq_nil_of_le (by omega)
    simp [loadCellsFrom, this]
  | n + 1, i, acc, hn => by
    have hi : i < l.length := by omega
    have hc := cellsAt_get h (List.getElem?_eq_getElem hi)
    simp only [loadCellsFrom, Sem.run_bind, addr_add, run_load, hc, Result.andThen_ok]
    rw [run_cells h n (i + 1) _ (by omega)]
    congr 1
    rw [List.drop_eq_getElem_cons hi]
    simp
theorem OP.loadA {t : TypeId} {x : Operand} {b off : Nat} {ti : TI} {l : List Value} (ho : o.op = .load t x) (hx : rd none env x = some (none, .pointer (some ⟨b, off, none⟩))) (ht : G.T.find t = some ti) (hg : ti.agg = true)
    (hv : Ent L (cellsAt b off l)) (hl : l.length = ti.size) (hd : o.dst = some d) (hN : Nat.blt d N = true) (h : post ((d, .val (.agg l.toArray)) :: env) L) : OP G N o env L post :=
  .run (fun a w ha hs => by
    have e := Tab.find_ok G.ok ht
    rw [execOp, ho]
    refine val_run ?_
    have hc := run_cells (P := G.P) (hv _ hs) l.length 0 #[] (by omega)
    simp only [List.drop_zero, Array.empty_append] at hc
    simp [Instr.loadAt, rd_plain hx ha, Instr.sureAddr, loadVar, run_isAgg e, hg, run_size e, loadCells, ← hl, hc]) hd hN h

/-- In block 'b', from 'off' on, stand these n cells. -/
inductive HasCut : List Assn → Nat → Nat → Nat → List Value → Prop
  | here {b off n : Nat} {l c : List Value} {T : TypeId} {L : List Assn} : cutL c off n = some l → HasCut (blk b c T :: L) b off n l
  | there {A : Assn} {L : List Assn} {b off n : Nat} {l : List Value} : HasCut L b off n l → HasCut (A :: L) b off n l
theorem HasCut.ent {L : List Assn} {b off n : Nat} {l : List Value} (h : HasCut L b off n l) : Ent L (cellsAt b off l) ∧ l.length = n := by
  induction h with
  | here h => exact ⟨Ent.cells (List.Mem.head _) h, (cutL_eq h).2⟩
  | there _ ih => exact ⟨Ent.tail ih.1, ih.2⟩
inductive HasNth : List Assn → Nat → Nat → Value → Prop
  | here {b off : Nat} {v : Value} {c : List Value} {T : TypeId} {L : List Assn} : nthL c off = some v → HasNth (blk b c T :: L) b off v
  | there {A : Assn} {L : List Assn} {b off : Nat} {v : Value} : HasNth L b off v → HasNth (A :: L) b off v
theorem HasNth.ent {L : List Assn} {b off : Nat} {v : Value} (h : HasNth L b off v) : Ent L (cellAt b off v) := by
  induction h with
  | here h => exact Ent.blk (List.Mem.head _) (by rw [← nthL_eq]; exact h)
  | there _ ih => exact Ent.tail ih
def sizeL : TI → Option Nat
  | ⟨_, s, _, _, _, _⟩ => some s
theorem sizeL_eq {t : TI} {z : Nat} (h : sizeL t = some z) : t.size = z := by cases t; simp only [sizeL, Option.some.injEq] at h; exact h
theorem OP.loadB {t : TypeId} {x : Operand} {b off n : Nat} {ti : TI} {l : List Value} (ho : o.op = .load t x) (hx : rd none env x = some (none, .pointer (some ⟨b, off, none⟩))) (ht : G.T.find t = some ti) (hg : ti.agg = true) (hn : sizeL ti = some n)
    (hv : HasCut L b off n l) (hd : o.dst = some d) (hN : Nat.blt d N = true) (h : post ((d, .val (.agg l.toArray)) :: env) L) : OP G N o env L post :=
  .loadA ho hx ht hg hv.ent.1 (hv.ent.2.trans (sizeL_eq hn).symm) hd hN h
theorem OP.loadN {t : TypeId} {x : Operand} {b off : Nat} {ti : TI} {v : Value} (ho : o.op = .load t x) (hx : rd none env x = some (none, .pointer (some ⟨b, off, none⟩))) (ht : G.T.find t = some ti) (hg : ti.agg = false)
    (hv : HasNth L b off v) (hd : o.dst = some d) (hN : Nat.blt d N = true) (h : post ((d, .val v) :: env) L) : OP G N o env L post :=
  .load1 ho hx ht hg hv.ent hd hN h
/-- is it one cell's value -/
def one : Value → Bool
  | .agg _ => false
  | .tuple _ => false
  | _ => true
def setOne : List Value → Nat → Value → Option (List Value)
  | [], _, _ => none
  | _ :: r, 0, v => some (v :: r)
  | x :: r, n + 1, v => match setOne r n v with
    | some r' => some (x :: r')
    | none => none
theorem setOne_eq {c : List Value} {n : Nat} {v : Value} {c' : List Value} (h : setOne c n v = some c') : c' = c.set n v ∧ n < c.length := by
  induction c generalizing n c' with
  | nil => cases h
  | cons x r ih =>
    cases n with
    | zero => cases h; simp
    | succ n =>
      simp only [setOne] at h
      split at h
      · rename_i r' hr; cases h; obtain ⟨h1, h2⟩ := ih hr; simp [h1, h2]
      · cases h
/-- cells side by side are written -/
def setMany : List Value → Nat → List Value → Option (List Value)
  | c, _, [] => some c
  | c, n, v :: vs => match setOne c n v with
    | some c' => setMany c' (n + 1) vs
    | none => none
theorem cell_of_blk {w : World} {b : Nat} {c : List Value} {T : TypeId} {n : Nat} (hs : Sat L w) (m : blk b c T ∈ L) (hn : n < c.length) : w.cell? ⟨b, n, none⟩ = some c[n] :=
  cell_of_cellAt ((Ent.blk m (List.getElem?_eq_getElem hn)) _ hs)
theorem one_cell {v : Value} (h : one v = true) : v.oneCell' = true := by cases v <;> first | rfl | cases h
theorem Upd.inv {L M : List Assn} {b : Nat} {c c' : List Value} {T : TypeId} (c2 : List Value) (u : Upd L b c T c' M) : ∃ M2, Upd L b c T c2 M2 ∧ Upd M2 b c2 T c' M := by
  induction u with
  | here b c c' T L => exact ⟨_, .here _ _ _ _ _, .here _ _ _ _ _⟩
  | there _ ih => obtain ⟨M2, h1, h2⟩ := ih; exact ⟨_, .there h1, .there h2⟩
theorem Upd.same {L M : List Assn} {b : Nat} {c : List Value} {T : TypeId} (u : Upd L b c T c M) : L = M := by
  generalize hc : c = c' at u
  have key : ∀ {L M : List Assn} {b : Nat} {c c' : List Value} {T : TypeId}, Upd L b c T c' M → c = c' → L = M := by
    intro L M b c c' T u
    induction u with
    | here b c c' T L => intro e; rw [e]
    | there _ ih => intro e; rw [ih e]
  subst hc
  exact key u rfl
theorem run_stores {P : Program} {b : Nat} {T : TypeId} : ∀ (vs : List Value) (off i : Nat) (c c' : List Value) (L M : List Assn) (w : World), (∀ v ∈ vs, one v = true) → setMany c (off + i) vs = some c' → Upd L b c T c' M → Sat L w →
    ∃ w', (storeCells ⟨b, off, none⟩ vs i).run P w = .ok () w' ∧ Sat M w'
  | [], off, i, c, c', L, M, w, _, hs, hu, s => by
    simp only [setMany, Option.some.injEq] at hs
    subst hs
    exact ⟨w, by simp [storeCells], hu.same ▸ s⟩
  | v :: vs, off, i, c, c', L, M, w, h1, hs, hu, s => by
    simp only [setMany] at hs
    split at hs
    · rename_i c2 hc2
      obtain ⟨e, hlt⟩ := setOne_eq hc2
      obtain ⟨M2, u1, u2⟩ := hu.inv c2
      have hcell := cell_of_blk s u1.has hlt
      have hfr := Sat.notFrozen s u1.has hlt
      have s2 : Sat M2 (w.setCell ⟨b, off + i, none⟩ v) := Sat.set (by rw [← e]; exact u1) s
      obtain ⟨w', r, s3⟩ := run_stores vs off (i + 1) c2 c' M2 M _ (fun x hx => h1 x (List.mem_cons_of_mem _ hx)) (by rw [← Nat.add_assoc]; exact hs) u2 s2
      refine ⟨w', ?_, s3⟩
      simp only [storeCells, Sem.run_bind, addr_add, run_store _ _ _ _ _ (one_cell (h1 v List.mem_cons_self)), hcell, hfr, Result.andThen_ok, Bool.false_eq_true, if_false]
      exact r
    · cases hs

def cellsOf (v : Value) : Option (List Value) := match v with
  | .agg a => some a.toList
  | .tuple _ => none
  | v => some [v]
theorem cellsOf_eq {v : Value} {l : List Value} (h : cellsOf v = some l) : v.cells = l.toArray := by
  cases v <;> simp only [cellsOf, Option.some.injEq] at h <;> first | (cases h; done) | (subst h; simp [Value.cells])
def allOne : List Value → Bool
  | [] => true
  | v :: r => match one v with
    | true => allOne r
    | false => false
theorem allOne_mem {l : List Value} (h : allOne l = true) : ∀ v ∈ l, one v = true := by
  induction l with
  | nil => intro v hv; cases hv
  | cons x r ih =>
    simp only [allOne] at h
    split at h
    · rename_i hx; intro v hv; rcases List.mem_cons.1 hv with rfl | hv
      · exact hx
      · exact ih h v hv
    · cases h
/-- Cells of block 'b', from 'off' on, are written. -/
inductive UpdM : List Assn → Nat → Nat → List Value → List Assn → Prop
  | here {b off : Nat} {vs c c' : List Value} {T : TypeId} {L : List Assn} : setMany c off vs = some c' → UpdM (blk b c T :: L) b off vs (blk b c' T :: L)
  | there {A : Assn} {L M : List Assn} {b off : Nat} {vs : List Value} : UpdM L b off vs M → UpdM (A :: L) b off vs (A :: M)
theorem UpdM.upd {L M : List Assn} {b off : Nat} {vs : List Value} (u : UpdM L b off vs M) : ∃ c c' T, setMany c off vs = some c' ∧ Upd L b c T c' M := by
  induction u with
  | here h => exact ⟨_, _, _, h, .here _ _ _ _ _⟩
  | there _ ih => obtain ⟨c, c', T, h, u⟩ := ih; exact ⟨c, c', T, h, .there u⟩
theorem OP.store {t : TypeId} {x y : Operand} {b off : Nat} {ti : TI} {v : Value} {vs : List Value} {M : List Assn} (ho : o.op = .store t x y) (hx : rd none env x = some (none, .pointer (some ⟨b, off, none⟩)))
    (hy : rd none env y = some (none, v)) (ht : G.T.find t = some ti) (hv : cellsOf v = some vs) (h1 : allOne vs = true) (hl : vs.length = ti.size) (hu : UpdM L b off vs M) (hd : o.dst = none) (h : post env M) : OP G N o env L post := .mk fun a w ha hs => by
  obtain ⟨c, c', T, hc, hu⟩ := hu.upd
  obtain ⟨w', r, s⟩ := run_stores (P := G.P) vs off 0 c c' L M w (allOne_mem h1) hc hu hs
  have e := Tab.find_ok G.ok ht
  unfold Oper.wp
  have : (execOp a.eval o).run G.P w = .ok .skip w' := by
    rw [execOp, ho]
    simp [Instr.storeAt, rd_plain hx ha, rd_plain hy ha, Instr.sureAddr, storeVar, cellsOf_eq hv, run_size e, hl, r]
  rw [this]
  simp only [Oper.upon, hd]
  exact ⟨env, M, ha, s, h⟩

theorem OP.new {c : List Value} {T : TypeId} (hr : ∀ a w, Agree N env a → Sat L w → (execOp a.eval o).run G.P w = .ok (.value (.pointer (some ⟨w.heap.size, 0, none⟩))) { w with heap := w.heap.push (.cells c.toArray T) })
    (hd : o.dst = some d) (hN : Nat.blt d N = true) (h : ∀ b, post ((d, .val (.pointer (some ⟨b, 0, none⟩))) :: env) (blk b c T :: L)) : OP G N o env L post := .mk fun a w ha hs => by
  unfold Oper.wp
  rw [hr a w ha hs]
  simp only [Oper.upon, hd]
  exact ⟨_, _, ha.put hN _, hs.new c T, h _⟩
def zeroL : TI → Option (List Value)
  | ⟨_, _, _, z, _, _⟩ => some z
theorem zeroL_eq {t : TI} {z : List Value} (h : zeroL t = some z) : t.zero = z := by cases t; simp only [zeroL, Option.some.injEq] at h; exact h
theorem OP.alloc {t : TypeId} {ti : TI} {z : List Value} (ho : o.op = .alloc t) (ht : G.T.find t = some ti) (hz : zeroL ti = some z) (hd : o.dst = some d) (hN : Nat.blt d N = true) (h : ∀ b, post ((d, .val (.pointer (some ⟨b, 0, none⟩))) :: env) (blk b z t :: L)) : OP G N o env L post :=
  .new (fun a w ha hs => by
    have e := Tab.find_ok G.ok ht
    have hz := zeroL_eq hz ▸ e.zcells
    rw [execOp, ho]
    simp [Instr.alloc, run_zero e, newVar, newRow, hz]) hd hN h
theorem OP.box {t : TypeId} {x : Operand} {v : Value} {vs : List Value} (ho : o.op = .box t x) (hx : rd none env x = some (none, v)) (hv : cellsOf v = some vs) (hd : o.dst = some d) (hN : Nat.blt d N = true)
    (h : ∀ b, post ((d, .val (.pointer (some ⟨b, 0, none⟩))) :: env) (blk b vs t :: L)) : OP G N o env L post :=
  .new (fun a w ha hs => by
    rw [execOp, ho]
    simp [Instr.box, rd_plain hx ha, newVar, newRow, cellsOf_eq hv]) hd hN h

/-! ### calls -/
/-- There is such a function, with a body. -/
structure Enters (P : Program) (f : FuncId) : Prop where
  ex : ∃ fn c, P.funcs[f]? = some fn ∧ (fn.name == "runtime.NumGoroutine") = false ∧ fn.body = some c
/-- What a call does: from memory that meets 'pre' (and whatever else) to a value and memory that meet 'post' (and the rest is as it was). -/
structure Triple (G : Ctx) (f : FuncId) (args : List Value) (pre : List Assn) (post : Value → List Assn → Prop) : Prop where
  enters : Enters G.P f
  calls : ∀ F w, Sat (pre ++ F) w → Calls G.P f args.toArray w (fun e w' => ∃ v M, e = .returned v ∧ post v M ∧ Sat (M ++ F) w')
/-- A call that only reads: where 'R' holds it hands back 'v', and changes nothing that was there. -/
structure RO (G : Ctx) (f : FuncId) (args : List Value) (R : Assn) (v : Value) : Prop where
  enters : Enters G.P f
  calls : ∀ w, R (hpOf w) → Calls G.P f args.toArray w (fun e w' => e = .returned v ∧ Ext w w')
theorem RO.triple {f : FuncId} {args : List Value} {R : Assn} {v : Value} (h : RO G f args R v) {M : List Assn} (he : Ent M R) : Triple G f args M (fun v' M' => v' = v ∧ M' = M) :=
  ⟨h.enters, fun _ w hs => (h.calls w (he _ (stars_append_left hs))).mono fun _ _ ⟨e, x⟩ => ⟨v, M, e, ⟨rfl, rfl⟩, hs.ext x⟩⟩
theorem Triple.mono {f : FuncId} {args : List Value} {pre : List Assn} {p p' : Value → List Assn → Prop} (h : Triple G f args pre p) (g : ∀ v M, p v M → ∃ M', p' v M' ∧ Imp M M') : Triple G f args pre p' :=
  ⟨h.enters, fun F w hs => (h.calls F w hs).mono fun _ _ ⟨v, M, e, x, s⟩ => let ⟨M', y, i⟩ := g v M x; ⟨v, M', e, y, (i.app F).sat s⟩⟩
theorem Triple.pre {f : FuncId} {args : List Value} {pre pre' : List Assn} {p : Value → List Assn → Prop} (h : Triple G f args pre p) (i : Imp pre' pre) : Triple G f args pre' p :=
  ⟨h.enters, fun F w hs => h.calls F w ((i.app F).sat hs)⟩

def rdAll (env : Env) : List Operand → Option (List Value)
  | [] => some []
  | x :: r => match rd none env x with
    | some (none, v) => match rdAll env r with
      | some l => some (v :: l)
      | none => none
    | _ => none
theorem rdAll_ok {a : Act} (ha : Agree N env a) : ∀ {xs : List Operand} {vs : List Value}, rdAll env xs = some vs → xs.map a.eval = vs
  | [], vs, h => by cases h; rfl
  | x :: r, vs, h => by
    simp only [rdAll] at h
    split at h
    · rename_i v hv
      split at h
      · rename_i l hl; cases h; rw [List.map_cons, rd_plain hv ha, rdAll_ok ha hl]
      · cases h
    · cases h
theorem run_call {P : Program} {f : FuncId} {xs : List Operand} {ats : Array TypeId} {a : Act} {vs : List Value} (he : Enters P f) (hv : xs.map a.eval = vs) (dst : Option Tmp) (ty : TypeId) (pos : String) (after : Array Edge) (guard : Option (Nat × Bool)) (w : World) :
    (execOp a.eval ⟨dst, .call ⟨.value (.func f), xs.toArray, ats⟩, ty, pos, after, guard⟩).run P w = .ok (.enter f vs.toArray) w := by
  obtain ⟨fn, c, h1, h2, h3⟩ := he.ex
  simp only [execOp, resolve, Act.eval, Deferred.ofValue, Sem.run_bind, Sem.run_pure, Result.andThen_ok, invoke, callFunc, run_program, h1]
  simp [h2, h3, ← hv]
theorem OP.call {f : FuncId} {xs : List Operand} {ats : Array TypeId} {vs : List Value} {pre F : List Assn} {p : Value → List Assn → Prop} (ho : o.op = .call ⟨.value (.func f), xs.toArray, ats⟩) (hv : rdAll env xs = some vs) (ht : Triple G f vs pre p) (hi : Imp L (pre ++ F))
    (hd : o.dst = some d) (hN : Nat.blt d N = true) (h : ∀ v M, p v M → post ((d, .val v) :: env) (M ++ F)) : OP G N o env L post := .mk fun a w ha hs => by
  obtain ⟨dst, op, type, pos, after, guard⟩ := o
  simp only at ho hd
  subst ho hd
  unfold Oper.wp
  rw [run_call ht.enters (rdAll_ok ha hv)]
  simp only [Oper.upon]
  refine (ht.calls F w (hi.sat hs)).mono ?_
  rintro e w' ⟨v, M, rfl, hp, s⟩
  exact ⟨_, _, ha.put hN v, s, h v M hp⟩
theorem OP.callRO {f : FuncId} {xs : List Operand} {ats : Array TypeId} {vs : List Value} {R : Assn} {v : Value} (ho : o.op = .call ⟨.value (.func f), xs.toArray, ats⟩) (hv : rdAll env xs = some vs) (ht : RO G f vs R v) (he : Ent L R)
    (hd : o.dst = some d) (hN : Nat.blt d N = true) (h : post ((d, .val v) :: env) L) : OP G N o env L post :=
  .call (F := []) ho hv (ht.triple he) (by rw [List.append_nil]; exact Imp.refl _) hd hN (fun v' M ⟨e1, e2⟩ => by rw [List.append_nil, e1, e2]; exact h)

/-! ### a function -/
/-- What is handed back. -/
def RetV (G : Ctx) : List ResultVar → Env → List Assn → List Value → Prop
  | [], _, _, vs => vs = []
  | .tmp t :: r, env, L, vs => ∃ v w, vs = v :: w ∧ Env.get env t = some (.val v) ∧ RetV G r env L w
  | .cell t ty :: r, env, L, vs => ∃ b off v w ti, vs = v :: w ∧ Env.get env t = some (.val (.pointer (some ⟨b, off, none⟩))) ∧ G.T.find ty = some ti ∧
      ((ti.agg = false ∧ Ent L (cellAt b off v)) ∨ (ti.agg = true ∧ ∃ l, v = .agg l.toArray ∧ l.length = ti.size ∧ Ent L (cellsAt b off l))) ∧ RetV G r env L w
def packed : List Value → Value
  | [v] => v
  | vs => .tuple vs.toArray
def retK (G : Ctx) (rs : List ResultVar) (p : Value → List Assn → Prop) : Kont
  | .normal, env, L => ∃ vs, RetV G rs env L vs ∧ p (packed vs) L
  | .ret, env, L => ∃ vs, RetV G rs env L vs ∧ p (packed vs) L
  | _, _, _ => False
def rv (tmps : Array Value) : ResultVar → Sem Value
  | .tmp t => Pure.pure (tmps.getD t undef)
  | .cell a t => do loadVar t (← asAddr (tmps.getD a undef))
theorem results_eq (fn : Func) (tmps : Array Value) : results fn tmps = (do let vs ← fn.results.mapM (rv tmps); Pure.pure (if h : vs.size = 1 then vs[0] else .tuple vs)) := by
  have : (fun | .tmp t => Pure.pure (tmps.getD t undef) | .cell a t => do loadVar t (← asAddr (tmps.getD a undef)) : ResultVar → Sem Value) = rv tmps := by
    funext r
    cases r <;> rfl
  unfold results
  rw [← this]
  rfl
theorem run_rets {a : Act} {w : World} (ha : Agree N env a) (hs : Sat L w) : ∀ {rs : List ResultVar} {vs : List Value}, RetV G rs env L vs → (rs.mapM (rv a.tmps)).run G.P w = Result.ok vs w
  | [], vs, h => by cases h; simp
  | .tmp t :: r, vs, ⟨v, w', e, hv, h⟩ => by
    have := ha.at_ _ _ hv
    simp only [Slot.fits] at this
    subst e
    simp [rv, Array.getD_eq_getD_getElem?, this, run_rets ha hs h]
  | .cell t ty :: r, vs, ⟨b, off, v, w', ti, e, hv, ht, hc, h⟩ => by
    have := ha.at_ _ _ hv
    simp only [Slot.fits] at this
    subst e
    have e := Tab.find_ok G.ok ht
    have key : (loadVar ty ⟨b, off, none⟩).run G.P w = .ok v w := by
      rcases hc with ⟨hg, hc⟩ | ⟨hg, l, rfl, hl, hc⟩
      · have hc := cell_of_cellAt (hc _ hs)
        simp [loadVar, run_isAgg e, hg, hc]
      · have hc := run_cells (P := G.P) (hc _ hs) l.length 0 #[] (by omega)
        simp only [List.drop_zero, Array.empty_append] at hc
        simp [loadVar, run_isAgg e, hg, run_size e, loadCells, ← hl, hc]
    simp [rv, Array.getD_eq_getD_getElem?, this, asAddr, key, run_rets ha hs h]
theorem run_results {a : Act} {w : World} (ha : Agree N env a) (hs : Sat L w) {fn : Func} {rs : List ResultVar} (hr : fn.results = rs.toArray) {vs : List Value} (h : RetV G rs env L vs) : (results fn a.tmps).run G.P w = .ok (packed vs) w := by
  rw [results_eq, hr, List.mapM_toArray]
  simp only [Sem.run_bind, Sem.run_map, run_rets ha hs h, Result.andThen_ok, Sem.run_pure]
  congr 1
  match vs with
  | [] => rfl
  | [v] => rfl
  | v :: u :: r => simp [packed]

def args0 : Nat → List Value → Env
  | _, [] => []
  | i, v :: r => (i, .val v) :: args0 (i + 1) r
theorem args0_get : ∀ (vs : List Value) (i j : Nat) (s : Slot), Env.get (args0 i vs) j = some s → i ≤ j ∧ ∃ v, s = .val v ∧ vs[j - i]? = some v
  | [], i, j, s, h => by cases h
  | v :: r, i, j, s, h => by
    simp only [args0, Env.get] at h
    split at h
    · rename_i e
      have e := Nat.eq_of_beq_eq_true e
      cases h; subst e
      exact ⟨Nat.le_refl _, v, rfl, by simp⟩
    · obtain ⟨h1, u, h2, h3⟩ := args0_get r (i + 1) j s h
      refine ⟨by omega, u, h2, ?_⟩
      have : j - i = (j - (i + 1)) + 1 := by omega
      rw [this]; simpa using h3
theorem body_calls {f : FuncId} {fn : Func} {c : Code} {vs : List Value} {rs : List ResultVar} {p : Value → List Assn → Prop} (hf : G.P.funcs[f]? = some fn) (hb : fn.body = some c) (hr : fn.results = rs.toArray) (hn : fn.ntmps = N)
    (hv : Nat.ble vs.length N = true) (h : WC G N c (args0 0 vs) L (retK G rs p)) (w : World) (hs : Sat L w) : Calls G.P f vs.toArray w (fun e w' => ∃ v M, e = .returned v ∧ p v M ∧ Sat M w') := by
  refine calls_of_wp hf hb (Code.wp_mono ?_ (h { tmps := vs.toArray ++ Array.replicate (fn.ntmps - vs.toArray.size) undef, defers := [] } w ?_ hs))
  · rintro e a w' ⟨env, M, ha, hs, hk⟩
    cases e with
    | normal => obtain ⟨vs, h1, h2⟩ := hk; exact ⟨ha.defers, _, run_results ha hs hr h1, _, _, rfl, h2, hs⟩
    | ret => obtain ⟨vs, h1, h2⟩ := hk; exact ⟨ha.defers, _, run_results ha hs hr h1, _, _, rfl, h2, hs⟩
    | _ => exact hk.elim
  · have hle : vs.length ≤ N := Nat.le_of_ble_eq_true hv
    refine ⟨rfl, by simp [hn]; omega, fun i s hi => ?_⟩
    obtain ⟨_, v, rfl, h2⟩ := args0_get vs 0 i s hi
    simp only [Nat.sub_zero] at h2
    simp only [Slot.fits]
    have : i < vs.length := (List.getElem?_eq_some_iff.1 h2).1
    have h3 : vs[i] = v := by rw [List.getElem?_eq_getElem this] at h2; exact Option.some.inj h2
    simp [Array.getElem?_append, this, h3]
/-- A function's contract, from its body. -/
theorem Triple.enter {f : FuncId} {fn : Func} {c : Code} {vs : List Value} {rs : List ResultVar} {pre : List Assn} {p : Value → List Assn → Prop} (hf : G.P.funcs[f]? = some fn) (hb : fn.body = some c) (hname : (fn.name == "runtime.NumGoroutine") = false) (hr : fn.results = rs.toArray) (hn : fn.ntmps = N)
    (hv : Nat.ble vs.length N = true) (h : ∀ F, WC G N c (args0 0 vs) (pre ++ [F]) (retK G rs (fun v M => ∃ M', p v M' ∧ Imp M (M' ++ [F])))) : Triple G f vs pre p :=
  ⟨⟨fn, c, hf, hname, hb⟩, fun F w hs => (body_calls hf hb hr hn hv (h (stars F)) w (by
      exact stars_app_one.1 hs)).mono fun _ _ ⟨v, M, e, ⟨M', h1, h2⟩, s⟩ => ⟨v, M', e, h1, stars_app_one.2 (h2 _ s)⟩⟩
theorem RO.enter {f : FuncId} {fn : Func} {c : Code} {vs : List Value} {rs : List ResultVar} {R : Assn} {v : Value} (hf : G.P.funcs[f]? = some fn) (hb : fn.body = some c) (hname : (fn.name == "runtime.NumGoroutine") = false) (hr : fn.results = rs.toArray) (hn : fn.ntmps = N)
    (hv : Nat.ble vs.length N = true) (h : ∀ A, Up A → (∀ k, A k → R k) → WC G N c (args0 0 vs) [A] (retK G rs (fun v' M => v' = v ∧ A ∈ M))) (hR : Up R) : RO G f vs R v :=
  ⟨⟨fn, c, hf, hname, hb⟩, fun w hw => (body_calls hf hb hr hn hv (h (old w) (up_old w) (fun _ x => hR _ _ x hw)) w (Sat.old w)).mono fun _ _ ⟨_, _, e, ⟨e1, e2⟩, s⟩ => ⟨by rw [e, e1], ext_of_old e2 s⟩⟩
end
end Go.GL
/- Regions whose order the tape picks. -/
namespace Go.GL
open Go

section
variable {P : Program} {ops : Array Oper} {Q : Exit → Act → World → Prop} {S : World → Prop} {n : Nat}
/-- Whatever order is picked from here on; S holds behind each of the first n operations. -/
def wpB (P : Program) (ops : Array Oper) (Q : Exit → Act → World → Prop) (S : World → Prop) (n : Nat) : Bool → Nat → Array Bool → Act → World → Prop
  | _, 0, listed, a, w => Region.ready .any ops listed = [] ∧ Q .normal a w
  | h, fuel + 1, listed, a, w =>
    (Region.ready .any ops listed = [] → Q .normal a w) ∧
    ∀ i ∈ Region.ready .any ops listed, wpOp P ops Q i (fun a' w' => ((h && Nat.blt i n) = true → S w') ∧ wpB P ops Q S n (h && Nat.blt i n) fuel (listed.setIfInBounds i true) a' w') a w
theorem wpAny_of_B : ∀ (h : Bool) (fuel : Nat) (listed : Array Bool) (a : Act) (w : World), wpB P ops Q S n h fuel listed a w → wpAny P .any ops Q fuel listed a w
  | _, 0, _, _, _, h => h
  | _, fuel + 1, _, _, _, h => ⟨h.1, fun i hi => wpOp_mono (fun a' w' h' => wpAny_of_B _ fuel _ a' w' h'.2) (h.2 i hi)⟩
def Closed (ops : Array Oper) (listed : Array Bool) : Prop :=
  ∀ j oj, ops[j]? = some oj → listed.getD j false = true → ∀ e ∈ oj.after, Region.binds .any e = true → listed.getD e.on false = true
inductive Before (ops : Array Oper) : Nat → Nat → Prop
  | one {j : Nat} {oj : Oper} {e : Edge} : ops[j]? = some oj → e ∈ oj.after → Region.binds .any e = true → Before ops e.on j
  | more {i j : Nat} {oj : Oper} {e : Edge} : ops[j]? = some oj → e ∈ oj.after → Region.binds .any e = true → Before ops i e.on → Before ops i j
theorem Closed.before {listed : Array Bool} (c : Closed ops listed) {i j : Nat} (b : Before ops i j) (h : listed.getD j false = true) : listed.getD i false = true := by
  induction b with
  | one ho he hb => exact c _ _ ho h _ he hb
  | more ho he hb _ ih => exact ih (c _ _ ho h _ he hb)
theorem ready_before {listed : Array Bool} (c : Closed ops listed) {i j : Nat} (b : Before ops i j) (h : j ∈ Region.ready .any ops listed) : listed.getD i false = true := by
  obtain ⟨_, oj, hoj, hall⟩ := mem_ready.1 h
  cases b with
  | one ho he hb => rw [ho] at hoj; cases hoj; exact hall _ he hb
  | more ho he hb b => rw [ho] at hoj; cases hoj; exact c.before b (hall _ he hb)
theorem Closed.set {listed : Array Bool} (c : Closed ops listed) {i : Nat} (h : i ∈ Region.ready .any ops listed) : Closed ops (listed.setIfInBounds i true) := by
  have up : ∀ k, listed.getD k false = true → (listed.setIfInBounds i true).getD k false = true := fun k hk => by
    by_cases e : i = k
    · subst e
      have : i < listed.size := by
        rcases Nat.lt_or_ge i listed.size with h | h
        · exact h
        · simp [Array.getElem?_eq_none h] at hk
      simp [this]
    · rw [getD_set_ne false e]; exact hk
  obtain ⟨_, oi, hoi, hall⟩ := mem_ready.1 h
  intro j oj hoj hj e he hb
  by_cases hij : i = j
  · subst hij
    rw [hoi] at hoj; cases hoj
    exact up _ (hall e he hb)
  · rw [getD_set_ne false hij] at hj
    exact up _ (c j oj hoj hj e he hb)
theorem Closed.start : Closed ops (Array.replicate ops.size false) := fun j oj _ h => by
  simp [Array.getElem?_replicate] at h
  split at h <;> simp_all
def beforeB (ops : Array Oper) : Nat → Nat → Nat → Bool
  | 0, _, _ => false
  | f + 1, i, j => match ops[j]? with
    | none => false
    | some oj => oj.after.any (fun e => Region.binds .any e && e.on == i) || oj.after.any (fun e => Region.binds .any e && beforeB ops f i e.on)
theorem beforeB_ok : ∀ {f i j : Nat}, beforeB ops f i j = true → Before ops i j
  | f + 1, i, j, h => by
    unfold beforeB at h
    split at h
    · cases h
    · rename_i oj ho
      rw [Bool.or_eq_true] at h
      rcases h with h | h
      · obtain ⟨e, he, hb⟩ := Array.any_eq_true'.1 h
        simp only [Bool.and_eq_true, beq_iff_eq] at hb
        rw [← hb.2]; exact .one ho he hb.1
      · obtain ⟨e, he, hb⟩ := Array.any_eq_true'.1 h
        simp only [Bool.and_eq_true] at hb
        exact .more ho he hb.1 (beforeB_ok hb.2)
/-- each operation from number n on waits for number i -/
def tailI (ops : Array Oper) (n i : Nat) : Bool := (List.range ops.size).all fun j => Nat.blt j n || beforeB ops ops.size i j
theorem tailI_ok {i : Nat} (h : tailI ops n i = true) {listed : Array Bool} (c : Closed ops listed) (hu : listed.getD i true = false) {j : Nat} (hj : j ∈ Region.ready .any ops listed) : j < n := by
  rcases Nat.lt_or_ge j n with h' | h'
  · exact h'
  · obtain ⟨_, oj, hoj, _⟩ := mem_ready.1 hj
    have hlt := (Array.getElem?_eq_some_iff.1 hoj).1
    simp only [tailI, List.all_eq_true, List.mem_range, Bool.or_eq_true] at h
    rcases h j hlt with h1 | h1
    · simp [Nat.blt_eq] at h1; omega
    · have := ready_before c (beforeB_ok h1) hj
      rcases Nat.lt_or_ge i listed.size with h2 | h2
      · simp [h2] at hu this; rw [hu] at this; cases this
      · simp [Array.getElem?_eq_none h2] at hu
/-- the first n have all come up -/
def phB (listed : Array Bool) (n : Nat) : Bool := (List.range n).all fun i => listed.getD i true
theorem phB_set {listed : Array Bool} {n k : Nat} (h : phB listed n = true) : phB (listed.setIfInBounds k true) n = true := by
  simp only [phB, List.all_eq_true, List.mem_range] at h ⊢
  intro i hi
  by_cases hik : k = i
  · subst hik
    have := h k hi
    rcases Nat.lt_or_ge k listed.size with h1 | h1
    · simp [h1]
    · rwa [Array.setIfInBounds_eq_of_size_le h1]
  · rw [getD_set_ne true hik]; exact h i hi
theorem phB_ready {listed : Array Bool} (h : phB listed n = true) {i : Nat} (hi : i ∈ Region.ready .any ops listed) : Nat.blt i n = false := by
  rcases Nat.lt_or_ge i n with h1 | h1
  · simp only [phB, List.all_eq_true, List.mem_range] at h
    have := (mem_ready.1 hi).1
    rw [h i h1] at this; cases this
  · cases hb : Nat.blt i n
    · rfl
    · simp [Nat.blt_eq] at hb; omega
theorem wpB_flag {h h' : Bool} : ∀ (fuel : Nat) (listed : Array Bool) (a : Act) (w : World), phB listed n = true → wpB P ops Q S n h fuel listed a w → wpB P ops Q S n h' fuel listed a w
  | 0, _, _, _, _, x => x
  | fuel + 1, listed, a, w, hp, x => ⟨x.1, fun i hi => by
    have e := phB_ready hp hi
    have := x.2 i hi
    rw [e, Bool.and_false] at this
    rw [e, Bool.and_false]
    exact this⟩

/-- An operation that yields its value wherever R holds may be taken first: if R holds as long as it is pending. -/
theorem wpB_first {R : World → Prop} {i : Nat} {oi : Oper} {v : Value} (hi : ops[i]? = some oi) (hsel : ∀ (j : Nat) (o : Oper) cs b, ops[j]? = some o → o.op ≠ .select cs b)
    (hQ : ∀ c a w, Q (.panic c) (a.put oi.dst v) w → Q (.panic c) a w) :
    ∀ (fuel : Nat) (h : Bool) (listed : Array Bool) (a : Act) (w : World), (h = false ∨ i < n) → ((∀ w, R w) ∨ (h = true ∧ tailI ops n i = true ∧ ∀ w, S w → R w)) → Closed ops listed →
      (∀ j oj, ops[j]? = some oj → j ≠ i → listed.getD j true = false → (∀ e ∈ oj.after, Region.binds .any e = true → e.on ≠ i) → oi.apart ops oj = true) →
      i ∈ Region.ready .any ops listed → YieldsIf P ops R oi v a → R w → (h = true → S w) →
      wpB P ops Q S n h fuel (listed.setIfInBounds i true) (a.put oi.dst v) w → wpB P ops Q S n h (fuel + 1) listed a w := by
  have hflag : ∀ h : Bool, (h = false ∨ i < n) → (h && Nat.blt i n) = h := fun h hh => by
    rcases hh with rfl | hh
    · rfl
    · have : Nat.blt i n = true := by simpa [Nat.blt_eq] using hh
      rw [this, Bool.and_true]
  intro fuel
  induction fuel with
  | zero =>
    intro h listed a w hh _ hc _ hr hy hRw hS H
    refine ⟨fun h => (by rw [h] at hr; cases hr), fun j hj => ?_⟩
    by_cases hji : j = i
    · subst hji; rw [hflag h hh]; exact hy.wpOp hi hRw ⟨hS, H⟩
    · have := ready_mono hj hji
      rw [H.1] at this
      cases this
  | succ fuel ih =>
    intro h listed a w hh hR hc hfree hr hy hRw hS H
    refine ⟨fun h => (by rw [h] at hr; cases hr), fun j hj => ?_⟩
    by_cases hji : j = i
    · subst hji; rw [hflag h hh]; exact hy.wpOp hi hRw ⟨hS, H⟩
    · have h1 := H.2 j (ready_mono hj hji)
      obtain ⟨hjun, oj, hoj, hall⟩ := mem_ready.1 hj
      have hnot : ∀ e ∈ oj.after, Region.binds .any e = true → e.on ≠ i := fun e he hb heq => by
        have h1 := hall e he hb
        have h0 := (mem_ready.1 hr).1
        rw [heq] at h1
        rcases Nat.lt_or_ge i listed.size with h' | h'
        · simp [h'] at h0 h1; rw [h0] at h1; cases h1
        · simp [Array.getElem?_eq_none h'] at h1
      have h2 := wpOp_putIf hoj (hfree j oj hoj hji hjun hnot) (fun cs b => hsel i oi cs b hi) (fun cs b => hsel j oj cs b hoj) hQ hy h1
      have hfree' : ∀ k ok, ops[k]? = some ok → k ≠ i → (listed.setIfInBounds j true).getD k true = false →
          (∀ e ∈ ok.after, Region.binds .any e = true → e.on ≠ i) → oi.apart ops ok = true := fun k ok hk hki hun hno => by
        refine hfree k ok hk hki ?_ hno
        by_cases hjk : j = k
        · subst hjk; exact hjun
        · rw [getD_set_ne true hjk] at hun; exact hun
      have hjn : tailI ops n i = true → Nat.blt j n = true := fun ht => by
        simpa [Nat.blt_eq] using tailI_ok ht hc (mem_ready.1 hr).1 hj
      refine wpOp_mono (fun a' w' h3 => ⟨h3.2.1, ih (h && Nat.blt j n) (listed.setIfInBounds j true) a' w' ?_ ?_ (hc.set hj) hfree' (ready_mono hr (Ne.symm hji)) h3.1 ?_ h3.2.1 ?_⟩) h2
      · rcases hh with rfl | hh
        · exact .inl rfl
        · exact .inr hh
      · rcases hR with hR | ⟨e, ht, hR⟩
        · exact .inl hR
        · exact .inr ⟨by rw [e, hjn ht]; rfl, ht, hR⟩
      · rcases hR with hR | ⟨e, ht, hR⟩
        · exact hR _
        · exact hR _ (h3.2.1 (by rw [e, hjn ht]; rfl))
      · rw [Array.setIfInBounds_comm _ _ hji]
        exact h3.2.2
/-- likewise, also where the first n have all come up -/
theorem wpB_pure {R : World → Prop} {i : Nat} {oi : Oper} {v : Value} {h : Bool} {listed : Array Bool} (hH : (!h || Nat.blt i n || phB listed n) = true) (hi : ops[i]? = some oi) (hsel : ∀ (j : Nat) (o : Oper) cs b, ops[j]? = some o → o.op ≠ .select cs b)
    (hQ : ∀ c a w, Q (.panic c) (a.put oi.dst v) w → Q (.panic c) a w) (hR : ∀ w, R w) (fuel : Nat) (a : Act) (w : World) (hc : Closed ops listed)
    (hfree : ∀ j oj, ops[j]? = some oj → j ≠ i → listed.getD j true = false → (∀ e ∈ oj.after, Region.binds .any e = true → e.on ≠ i) → oi.apart ops oj = true)
    (hr : i ∈ Region.ready .any ops listed) (hy : YieldsIf P ops R oi v a) (hS : h = true → S w) (H : wpB P ops Q S n h fuel (listed.setIfInBounds i true) (a.put oi.dst v) w) : wpB P ops Q S n h (fuel + 1) listed a w := by
  simp only [Bool.or_eq_true] at hH
  rcases hH with (hH | hH) | hH
  · exact wpB_first hi hsel hQ fuel h listed a w (.inl (by simpa using hH)) (.inl hR) hc hfree hr hy (hR w) hS H
  · exact wpB_first hi hsel hQ fuel h listed a w (.inr (by simpa [Nat.blt_eq] using hH)) (.inl hR) hc hfree hr hy (hR w) hS H
  · exact wpB_flag (h := false) _ _ _ _ hH (wpB_first hi hsel hQ fuel false listed a w (.inl rfl) (.inl hR) hc hfree hr hy (hR w) (fun e => nomatch e) (wpB_flag (h := h) _ _ _ _ (phB_set hH) H))
end

/-- A region whose order the tape picks: so many of its operations have come up. 'S': what its loads lean on, as long as one of the first n is to come. 'hd': S is known to hold now. -/
structure WH (G : Ctx) (N : Nat) (ops : Array Oper) (n : Nat) (S : List Assn) (hd : Bool) (fuel : Nat) (listed : Array Bool) (env : Env) (L : List Assn) (k : Kont) : Prop where
  go : ∀ a w, Agree N env a → Sat L w → (hd = true → Sat S w) → Closed ops listed → wpB G.P ops (lift N k) (Sat S) n hd fuel listed a w
instance (G : Ctx) (N : Nat) (ops : Array Oper) (n : Nat) (S : List Assn) (hd : Bool) (fuel : Nat) (listed : Array Bool) (env : Env) (L : List Assn) (k : Kont) : CoeFun (WH G N ops n S hd fuel listed env L k) (fun _ => ∀ a w, Agree N env a → Sat L w → (hd = true → Sat S w) → Closed ops listed → wpB G.P ops (lift N k) (Sat S) n hd fuel listed a w) := ⟨WH.go⟩
section
variable {G : Ctx} {N : Nat} {env : Env} {L S : List Assn} {k : Kont} {n : Nat} {fuel : Nat} {listed : Array Bool} {hd : Bool}
theorem WC.regionE {id : Nat} {l : List Oper} (n m : Nat) (S : List Assn) (hm : l.length = m) (hS : Imp L S) (h : WH G N l.toArray n S true m (Array.replicate m false) env L k) : WC G N (.region id l.toArray true) env L k := .mk fun a w ha hs =>
  wp_region_any G.mixed (wpAny_of_B true _ _ _ _ (by
    subst hm
    have hs' : Sat L { w with drawn := w.drawn + 1 } := hs
    have := h a _ ha hs' (fun _ => hS.sat hs') (by have := Closed.start (ops := l.toArray); simpa using this)
    simpa using this))
variable {l : List Oper} {o : Oper}
theorem WH.done (hr : Region.ready .any l.toArray listed = []) (h : k .normal env L) : WH G N l.toArray n S hd fuel listed env L k := .mk fun a w ha hs _ _ => by
  have : lift N k .normal a w := ⟨env, L, ha, hs, h⟩
  cases fuel with
  | zero => exact ⟨hr, this⟩
  | succ f => exact ⟨fun _ => this, by rw [hr]; simp⟩
theorem noPanic (hk : ∀ c env L, ¬ k (.panic c) env L) (c : List PanicEntry) (a : Act) (w : World) (d : Option Tmp) (v : Value) : lift N k (.panic c) (a.put d v) w → lift N k (.panic c) a w := fun ⟨_, _, _, _, h⟩ => (hk _ _ _ h).elim
/-- take operation number i: it only computes -/
theorem WH.pure (i : Nat) {d : Nat} {nw : Bool} {c : Option Prop} {v : Value} (hi : l.toArray[i]? = some o) (hg : o.guard = none) (hs : Region.noSelect l.toArray = true) (hf : Region.free .any l.toArray listed i = true) (hr : (Region.ready .any l.toArray listed).contains i = true)
    (hk : ∀ c env L, ¬ k (.panic c) env L) (hH : (!hd || Nat.blt i n || phB listed n) = true) (he : ev G.T nw none env o.op = some (c, v)) (hc : Holds c) (hdst : o.dst = some d) (hN : Nat.blt d N = true)
    (h : WH G N l.toArray n S hd fuel (listed.setIfInBounds i true) ((d, .val v) :: env) L k) : WH G N l.toArray n S hd (fuel + 1) listed env L k := .mk fun a w ha hsat hS hcl => by
  have hri : i ∈ Region.ready .any l.toArray listed := by simpa using hr
  refine wpB_pure (R := fun _ => True) hH hi (Region.noSelect_spec hs) (fun c a w => noPanic hk c a w _ _) (fun _ => trivial) fuel a w hcl (Region.free_spec hi hf) hri
    (.inl ⟨by simp [Region.wanted, hg], fun w _ => ev_ok G.ok he hc trivial ha w⟩) hS ?_
  · rw [hdst]; exact h _ w (ha.put hN v) hsat hS (hcl.set hri)
/-- take operation number i, which is guarded and only computes -/
theorem WH.guarded (i : Nat) {j t d : Nat} {want q nw : Bool} {oj : Oper} {c : Option Prop} {v : Value} (hi : l.toArray[i]? = some o) (hg : o.guard = some (j, want)) (hj : l.toArray[j]? = some oj) (hjt : oj.dst = some t) (hq : gdOf env t want = some q)
    (hs : Region.noSelect l.toArray = true) (hf : Region.free .any l.toArray listed i = true) (hr : (Region.ready .any l.toArray listed).contains i = true)
    (hk : ∀ c env L, ¬ k (.panic c) env L) (hH : (!hd || Nat.blt i n || phB listed n) = true) (he : ev G.T nw (some q) env o.op = some (c, v)) (hc : Holds c) (hdst : o.dst = some d) (hN : Nat.blt d N = true)
    (h : WH G N l.toArray n S hd fuel (listed.setIfInBounds i true) ((d, .grd q v) :: env) L k) : WH G N l.toArray n S hd (fuel + 1) listed env L k := .mk fun a w ha hsat hS hcl => by
  have hri : i ∈ Region.ready .any l.toArray listed := by simpa using hr
  have hw := gdOf_ok (ops := l.toArray) ha hq hj hjt hg
  refine wpB_pure (R := fun _ => True) (v := bif q then v else undef) hH hi (Region.noSelect_spec hs) (fun c a w => noPanic hk c a w _ _) (fun _ => trivial) fuel a w hcl (Region.free_spec hi hf) hri ?_ hS ?_
  · cases q with
    | true => exact .inl ⟨hw, fun w _ => ev_ok G.ok he hc rfl ha w⟩
    | false => exact .inr ⟨hw, rfl⟩
  · rw [hdst]; exact h _ w (ha.grd hN rfl) hsat hS (hcl.set hri)
theorem run_load1 {P : Program} {T : Tab} (hT : T.ok P) {t : TypeId} {x : Operand} {b off : Nat} {ti : TI} {v : Value} {a : Act} {w : World} (ho : o.op = .load t x) (hx : a.eval x = .pointer (some ⟨b, off, none⟩)) (ht : T.find t = some ti) (hg : ti.agg = false)
    (hv : cellAt b off v (hpOf w)) : (execOp a.eval o).run P w = .ok (.value v) w := by
  have e := Tab.find_ok hT ht
  rw [execOp, ho]
  refine val_run ?_
  have hc := cell_of_cellAt hv
  simp [Instr.loadAt, hx, Instr.sureAddr, loadVar, run_isAgg e, hg, hc]
theorem run_loadA {P : Program} {T : Tab} (hT : T.ok P) {t : TypeId} {x : Operand} {b off : Nat} {ti : TI} {l : List Value} {a : Act} {w : World} (ho : o.op = .load t x) (hx : a.eval x = .pointer (some ⟨b, off, none⟩)) (ht : T.find t = some ti) (hg : ti.agg = true)
    (hv : cellsAt b off l (hpOf w)) (hl : l.length = ti.size) : (execOp a.eval o).run P w = .ok (.value (.agg l.toArray)) w := by
  have e := Tab.find_ok hT ht
  rw [execOp, ho]
  refine val_run ?_
  have hc := run_cells (P := P) hv l.length 0 #[] (by omega)
  simp only [List.drop_zero, Array.empty_append] at hc
  simp [Instr.loadAt, hx, Instr.sureAddr, loadVar, run_isAgg e, hg, run_size e, loadCells, ← hl, hc]
/-- what a load reads -/
def Loads (S : List Assn) (ti : TI) (b off : Nat) (v : Value) : Prop := (ti.agg = false ∧ Ent S (cellAt b off v)) ∨ (ti.agg = true ∧ ∃ l, v = .agg l.toArray ∧ l.length = ti.size ∧ Ent S (cellsAt b off l))
theorem loads_cut {ti : TI} {b off n : Nat} {l : List Value} (hg : ti.agg = true) (hn : sizeL ti = some n) (h : HasCut S b off n l) : Loads S ti b off (.agg l.toArray) := .inr ⟨hg, l, rfl, h.ent.2.trans (sizeL_eq hn).symm, h.ent.1⟩
theorem run_loads {P : Program} {T : Tab} (hT : T.ok P) {t : TypeId} {x : Operand} {b off : Nat} {ti : TI} {v : Value} {a : Act} {w : World} (ho : o.op = .load t x) (hx : a.eval x = .pointer (some ⟨b, off, none⟩)) (ht : T.find t = some ti)
    (hv : Loads S ti b off v) (hs : Sat S w) : (execOp a.eval o).run P w = .ok (.value v) w := by
  rcases hv with ⟨hg, h⟩ | ⟨hg, l, rfl, hl, h⟩
  · exact run_load1 hT ho hx ht hg (h _ hs)
  · exact run_loadA hT ho hx ht hg (h _ hs) hl
/-- take operation number i: a load of what S tells -/
theorem WH.load (i : Nat) {d : Nat} {t : TypeId} {x : Operand} {b off : Nat} {ti : TI} {v : Value} (hi : l.toArray[i]? = some o) (hg : o.guard = none) (hs : Region.noSelect l.toArray = true) (hf : Region.free .any l.toArray listed i = true) (hr : (Region.ready .any l.toArray listed).contains i = true)
    (hk : ∀ c env L, ¬ k (.panic c) env L) (hin : (Nat.blt i n && tailI l.toArray n i) = true) (ho : o.op = .load t x) (hx : rd none env x = some (none, .pointer (some ⟨b, off, none⟩))) (hti : G.T.find t = some ti) (hv : Loads S ti b off v) (hdst : o.dst = some d) (hN : Nat.blt d N = true)
    (h : WH G N l.toArray n S true fuel (listed.setIfInBounds i true) ((d, .val v) :: env) L k) : WH G N l.toArray n S true (fuel + 1) listed env L k := .mk fun a w ha hsat hS hcl => by
  have hri : i ∈ Region.ready .any l.toArray listed := by simpa using hr
  have hin' : i < n := by simp only [Bool.and_eq_true] at hin; simpa [Nat.blt_eq] using hin.1
  have htl : tailI l.toArray n i = true := by simp only [Bool.and_eq_true] at hin; exact hin.2
  refine wpB_first (R := Sat S) hi (Region.noSelect_spec hs) (fun c a w => noPanic hk c a w _ _) fuel true listed a w (.inr hin') (.inr ⟨rfl, htl, fun _ h => h⟩) hcl (Region.free_spec hi hf) hri
    (.inl ⟨by simp [Region.wanted, hg], fun w hw => run_loads G.ok ho (rd_plain hx ha) hti hv hw⟩) (hS rfl) (fun _ => hS rfl) ?_
  rw [hdst]; exact h _ w (ha.put hN v) hsat hS (hcl.set hri)
/-- the one operation that may come up now -/
theorem WH.only (i : Nat) {hd' : Bool} (hi : l.toArray[i]? = some o) (hg : o.guard = none) (hr : Region.ready .any l.toArray listed = [i]) (hb : hd' = (hd && Nat.blt i n))
    (h : OP G N o env L (fun e M => (hd' = true → Imp M S) ∧ WH G N l.toArray n S hd' fuel (listed.setIfInBounds i true) e M k)) : WH G N l.toArray n S hd (fuel + 1) listed env L k := .mk fun a w ha hsat hS0 hcl => by
  have hri : i ∈ Region.ready .any l.toArray listed := by rw [hr]; simp
  refine ⟨fun h0 => (by rw [hr] at h0; cases h0), fun j hj => ?_⟩
  rw [hr] at hj
  simp only [List.mem_singleton] at hj
  subst hj
  unfold wpOp
  rw [hi]
  simp only []
  rw [if_pos (by simp [Region.wanted, hg])]
  refine .inl (wp_oper_mono ?_ (fun _ _ _ h => h.elim) (h a w ha hsat))
  rintro a' w' ⟨e, M, x, y, z1, z2⟩
  subst hb
  exact ⟨fun hlt => (z1 hlt).sat y, z2 a' w' x y (fun e => (z1 e).sat y) (hcl.set hri)⟩
/-- likewise, where its guard says no or yes -/
theorem WH.onlyG (i : Nat) {hd' : Bool} {j t d : Nat} {want q : Bool} {oj : Oper} (hi : l.toArray[i]? = some o) (hg : o.guard = some (j, want)) (hj : l.toArray[j]? = some oj) (hjt : oj.dst = some t) (hq : gdOf env t want = some q) (hdst : o.dst = some d) (hN : Nat.blt d N = true)
    (hr : Region.ready .any l.toArray listed = [i]) (hb : hd' = (hd && Nat.blt i n)) (_ : hd = true ∨ hd' = false)
    (h1 : q = true → OP G N o env L (fun e M => (hd' = true → Imp M S) ∧ WH G N l.toArray n S hd' fuel (listed.setIfInBounds i true) e M k))
    (h2 : q = false → WH G N l.toArray n S hd' fuel (listed.setIfInBounds i true) ((d, .val undef) :: env) L k) : WH G N l.toArray n S hd (fuel + 1) listed env L k := .mk fun a w ha hsat hS hcl => by
  have hri : i ∈ Region.ready .any l.toArray listed := by rw [hr]; simp
  have hw := gdOf_ok (ops := l.toArray) ha hq hj hjt hg
  refine ⟨fun h0 => (by rw [hr] at h0; cases h0), fun j' hj' => ?_⟩
  rw [hr] at hj'
  simp only [List.mem_singleton] at hj'
  subst hj'
  unfold wpOp
  rw [hi]
  simp only []
  rw [hw]
  cases q with
  | true =>
    rw [if_pos rfl]
    refine .inl (wp_oper_mono ?_ (fun _ _ _ h => h.elim) (h1 rfl a w ha hsat))
    rintro a' w' ⟨e, M, x, y, z1, z2⟩
    subst hb
    exact ⟨fun hlt => (z1 hlt).sat y, z2 a' w' x y (fun e => (z1 e).sat y) (hcl.set hri)⟩
  | false =>
    rw [if_neg (by simp), hdst]
    subst hb
    have hS' : (hd && Nat.blt j' n) = true → Sat S w := fun e => hS (by cases hd <;> simp_all)
    exact ⟨hS', h2 rfl _ w (ha.put hN _) hsat hS' (hcl.set hri)⟩
end
end Go.GL
/- Slices that own their block, slices that are read; append, string and bytes. -/
namespace Go.GL
open Go

/-- The slice (a, n, cap) reads as these cells. -/
def readS (a : Option Addr) (n size : Nat) (cs : List Value) : Assn := fun h =>
  cs.length = n * size ∧ ((a = none ∧ n = 0) ∨ ∃ b off, a = some ⟨b, off, none⟩ ∧ cellsAt b off cs h)
theorem up_readS (a : Option Addr) (n size : Nat) (cs : List Value) : Up (readS a n size cs) := fun h k le ⟨e, x⟩ => ⟨e, x.imp id fun ⟨b, off, e, c⟩ => ⟨b, off, e, up_cellsAt _ _ _ h k le c⟩⟩
/-- The slice (a, n, cap), whose block is its own, holds these cells. -/
def ownS (a : Option Addr) (n cap : Nat) (T : TypeId) (size : Nat) (cs : List Value) : Assn := fun h =>
  cs.length = n * size ∧ n ≤ cap ∧ ((a = none ∧ cap = 0) ∨ ∃ b pre post, a = some ⟨b, pre.length, none⟩ ∧ cap * size ≤ cs.length + post.length ∧ blk b (pre ++ cs ++ post) T h)
theorem cells_mid {b : Nat} {pre cs post : List Value} {T : TypeId} {h : Hp} (x : blk b (pre ++ cs ++ post) T h) : cellsAt b pre.length cs h := by
  obtain ⟨fr, hb, _⟩ := x
  refine ⟨_, T, fr, hb, fun i v hi => ?_⟩
  have hlt : i < cs.length := (List.getElem?_eq_some_iff.1 hi).1
  simp only [List.getElem?_toArray]
  rw [List.append_assoc, List.getElem?_append_right (by omega), List.getElem?_append_left (by omega)]
  simpa using hi
theorem read_of_own {a : Option Addr} {n cap : Nat} {T : TypeId} {size : Nat} {cs : List Value} {h : Hp} (x : ownS a n cap T size cs h) : readS a n size cs h := by
  obtain ⟨e, le, ⟨rfl, rfl⟩ | ⟨b, pre, post, rfl, _, x⟩⟩ := x
  · exact ⟨e, .inl ⟨rfl, by omega⟩⟩
  · exact ⟨e, .inr ⟨b, _, rfl, cells_mid x⟩⟩
theorem up_ownS (a : Option Addr) (n cap : Nat) (T : TypeId) (size : Nat) (cs : List Value) : Up (ownS a n cap T size cs) := fun h k le ⟨e, l, x⟩ =>
  ⟨e, l, x.imp id fun ⟨b, pre, post, e, c, y⟩ => ⟨b, pre, post, e, c, up_blk _ _ _ h k le y⟩⟩
theorem Ent.own {L : List Assn} {a : Option Addr} {n cap : Nat} {T : TypeId} {size : Nat} {cs : List Value} (m : ownS a n cap T size cs ∈ L) : Ent L (readS a n size cs) :=
  Ent.mem m (up_ownS _ _ _ _ _ _) fun _ x => read_of_own x
theorem ownS_nil (T : TypeId) (size : Nat) (h : Hp) : ownS none 0 0 T size [] h := ⟨by simp, Nat.le_refl _, .inl ⟨rfl, rfl⟩⟩

theorem Imp.nilS {L : List Assn} (T : TypeId) (size : Nat) : Imp L (ownS none 0 0 T size [] :: L) := fun h s => ⟨Hp.empty, h, fun _ => .inl rfl, by funext b; simp [Hp.join, Hp.empty], ownS_nil _ _ _, s⟩
theorem setOne_lt {c : List Value} {n : Nat} (v : Value) (h : n < c.length) : setOne c n v = some (c.set n v) := by
  induction c generalizing n with
  | nil => simp at h
  | cons x r ih =>
    cases n with
    | zero => rfl
    | succ n => simp only [setOne, ih (by simpa using h), List.set_cons_succ]
theorem setMany_mid : ∀ (vs pre old post : List Value), old.length = vs.length → setMany (pre ++ old ++ post) pre.length vs = some (pre ++ vs ++ post)
  | [], pre, old, post, h => by
    have : old = [] := List.length_eq_zero_iff.1 h
    subst this; rfl
  | v :: vs, pre, [], post, h => by simp at h
  | v :: vs, pre, o :: old, post, h => by
    have h1 : setOne (pre ++ o :: old ++ post) pre.length v = some (pre ++ v :: old ++ post) := by
      rw [setOne_lt _ (by simp)]
      simp
    have h2 := setMany_mid vs (pre ++ [v]) old post (by simpa using h)
    simp only [List.length_append, List.length_singleton, List.append_assoc, List.cons_append, List.nil_append] at h2
    simp only [List.append_assoc, List.cons_append] at h1
    simp only [setMany, List.append_assoc, List.cons_append, h1]
    exact h2

/-- Cells of a slice that is read are loaded. -/
theorem run_firstCells {P : Program} {w : World} {a : Option Addr} {n size c : Nat} {cs : List Value} (h : readS a n size cs (hpOf w)) : (Builtin.firstCells size n (.slice a n c)).run P w = .ok cs.toArray w := by
  obtain ⟨e, ⟨rfl, rfl⟩ | ⟨b, off, rfl, hc⟩⟩ := h
  · have : cs = [] := List.length_eq_zero_iff.1 (by simpa using e)
    subst this
    simp [Builtin.firstCells]
  · have := run_cells (P := P) hc cs.length 0 #[] (by omega)
    simp only [List.drop_zero, Array.empty_append] at this
    simp only [Builtin.firstCells, loadCells, ← e, this]
theorem nextcap_le (need old : Nat) (h : old < need) : Builtin.nextslicecap need old ≤ 2 * need := by
  unfold Builtin.nextslicecap
  split
  · omega
  · split
    · omega
    · have key : ∀ (r c : Nat), c ≤ 2 * need → Builtin.growBy need r c ≤ 2 * need := by
        intro r
        induction r with
        | zero => intro c hc; exact hc
        | succ r ih =>
          intro c hc
          unfold Builtin.growBy
          split
          · exact hc
          · exact ih _ (by omega)
      exact key _ _ (by omega)

section
variable {G : Ctx} {P : Program}
/-- What append is told to append: so many elements, these cells. -/
def Appends (P : Program) (t2 : TypeId) (y : Value) (m size : Nat) (ds : List Value) (w : World) : Prop :=
  ((∃ e, P.underlying t2 = some (.slice e)) ∨ P.underlying t2 = some .string) ∧ ds.length = m * size ∧ (Builtin.lenOf y).run P w = .ok m w ∧ (Builtin.firstCells size m y).run P w = .ok ds.toArray w
theorem run_append {T : Tab} (hT : T.ok P) {t t2 e ty : TypeId} {ti tsl : TI} {a : Option Addr} {n cap m : Nat} {cs ds : List Value} {y : Value} {F : List Assn} {w : World}
    (ht : T.find t = some tsl) (htd : tsl.desc = .slice e) (hte : T.find e = some ti) (hs : Sat (ownS a n cap e ti.size cs :: F) w)
    (hy : ∀ w', hpOf w' = hpOf w → Appends P t2 y m ti.size ds w') (hone : allOne ds = true) (hb : (n + m) * ti.bytes ≤ 140737488355328) (hmax : n + m ≤ 9223372036854775807) :
    ∃ a' cap' w', (Builtin.append_ #[t, t2] ty #[.slice a n cap, y]).run P w = .ok (.slice a' (n + m) cap') w' ∧ Sat (ownS a' (n + m) cap' e ti.size (cs ++ ds) :: F) w' := by
  have eT := Tab.find_ok hT ht
  have eE := Tab.find_ok hT hte
  have hu : P.underlying t = some (.slice e) := htd ▸ eT.desc
  obtain ⟨ht2, hlen, hl, hf⟩ := hy w rfl
  obtain ⟨h1, h2, d, e', hown, rest⟩ := hs
  obtain ⟨hcl, hle, hown⟩ := hown
  by_cases hroom : n + m ≤ cap
  · -- there is room
    rcases hown with ⟨rfl, rfl⟩ | ⟨b, pre, post, rfl, hcap, hblk⟩
    · have hn : n = 0 := by omega
      have hm : m = 0 := by omega
      subst hn hm
      have hds : ds = [] := List.length_eq_zero_iff.1 (by simpa using hlen)
      have hcs : cs = [] := List.length_eq_zero_iff.1 (by simpa using hcl)
      subst hds hcs
      refine ⟨none, 0, w, ?_, ⟨h1, h2, d, e', ⟨by simp, Nat.le_refl _, .inl ⟨rfl, rfl⟩⟩, rest⟩⟩
      rcases ht2 with ⟨e2, ht2⟩ | ht2 <;> simp [Builtin.append_, run_underlying hu, run_underlying ht2, run_size eE, hl, hf]
    · have hpost : ds.length ≤ post.length := by
        have : (n + m) * ti.size ≤ cap * ti.size := Nat.mul_le_mul_right _ hroom
        rw [Nat.add_mul] at this
        omega
      have hs' : Sat (blk b (pre ++ cs ++ post) e :: F) w := ⟨h1, h2, d, e', hblk, rest⟩
      have hsplit : pre ++ cs ++ post = (pre ++ cs) ++ post.take ds.length ++ post.drop ds.length := by simp
      have hset := setMany_mid ds (pre ++ cs) (post.take ds.length) (post.drop ds.length) (by simp [hpost])
      rw [← hsplit] at hset
      obtain ⟨w', r, s⟩ := run_stores (P := P) ds (pre ++ cs).length 0 (pre ++ cs ++ post) (pre ++ cs ++ ds ++ post.drop ds.length) _ _ w (allOne_mem hone) hset (.here _ _ _ _ _) hs'
      refine ⟨some ⟨b, pre.length, none⟩, cap, w', ?_, ?_⟩
      · have hadd : (⟨b, pre.length, none⟩ : Addr).add (n * ti.size) = ⟨b, (pre ++ cs).length, none⟩ := by rw [addr_add, ← hcl]; simp
        have r' := r
        simp only [List.length_append] at r'
        rcases ht2 with ⟨e2, ht2⟩ | ht2 <;> simp [Builtin.append_, run_underlying hu, run_underlying ht2, run_size eE, hl, hf, hroom, hadd, r']
      · refine stars_head_mono (A := blk b (pre ++ cs ++ ds ++ post.drop ds.length) e) (fun k hk => ?_) s
        refine ⟨by rw [List.length_append, hcl, hlen, Nat.add_mul], hroom, .inr ⟨b, pre, post.drop ds.length, rfl, ?_, by rw [← List.append_assoc]; exact hk⟩⟩
        simp only [List.length_append, List.length_drop]; omega
  · -- a new array
    have hro : readS a n ti.size cs (hpOf w) := up_readS _ _ _ _ _ _ (by rw [e']; exact Hp.le_join_left _ _) (read_of_own ⟨hcl, hle, hown⟩)
    have hcapb : ¬ (Builtin.nextslicecap (n + m) cap * ti.bytes > 2 ^ 48) := by
      have h1 := nextcap_le (n + m) cap (by omega)
      have h2 : Builtin.nextslicecap (n + m) cap * ti.bytes ≤ 2 * (n + m) * ti.bytes := Nat.mul_le_mul_right _ h1
      rw [Nat.mul_assoc] at h2
      omega
    have hmax' : ¬ (((n + m : Nat) : Int) > IntKind.i64.max) := by
      simp [IntKind.max, IntKind.signed, IntKind.bits]; omega
    obtain ⟨x, hx, hinfo, hxs, hxb, hxz, _⟩ := run_info eE w
    have hinfo' : ∀ w', (typeInfo e).run P w' = .ok x w' := fun w' => by obtain ⟨x', hx', h', _⟩ := run_info eE w'; rw [hx] at hx'; cases hx'; exact h'
    have hmax2 : ¬ (9223372036854775807 < (n : Int) + (m : Int)) := by omega
    have hw1 : hpOf w.drew = hpOf w := rfl
    have hfo : (Question.appendCap (n + m) cap e).forced = false := rfl
    obtain ⟨cap', hcap', hge⟩ : ∃ cap', (Question.appendCap (n + m) cap e).cut (w.tape w.drawn (Question.appendCap (n + m) cap e)) = cap' ∧ n + m ≤ cap' := ⟨_, rfl, by simp only [Question.cut]; omega⟩
    obtain ⟨_, _, _, hf1⟩ := hy w.drew hw1
    have hro1 : readS a n ti.size cs (hpOf w.drew) := hro
    have hs1 : Sat F w.drew := by unfold Sat; rw [hw1, e']; exact stars_mono (Hp.le_join_right d) rest
    have hzs : (Builtin.zeroCells (zeroOf ti).cells (cap' - (n + m))).size = (cap' - (n + m)) * ti.size := by
      simp [Builtin.zeroCells, eE.zcells, eE.zero]
    have hnew := Sat.new hs1 (cs ++ ds ++ (Builtin.zeroCells (zeroOf ti).cells (cap' - (n + m))).toList) e
    refine ⟨some ⟨w.drew.heap.size, 0, none⟩, cap', _, ?_, stars_head_mono (fun k hk => ⟨by rw [List.length_append, hcl, hlen, Nat.add_mul], hge, .inr ⟨_, [], (Builtin.zeroCells (zeroOf ti).cells (cap' - (n + m))).toList, rfl, ?_, by rw [List.nil_append]; exact hk⟩⟩) hnew⟩
    · have earr : cs.toArray ++ (ds.toArray ++ Builtin.zeroCells (zeroOf ti).cells (cap' - (n + m))) = (cs ++ (ds ++ (Builtin.zeroCells (zeroOf ti).cells (cap' - (n + m))).toList)).toArray := by
        apply Array.ext'; simp
      rcases ht2 with ⟨e2, ht2⟩ | ht2 <;>
        simp [Builtin.append_, run_underlying hu, run_underlying ht2, run_size eE, hl, hroom, hinfo', hxb, hmax2, hcapb, hfo, hcap', hf1, run_firstCells hro1, run_zero eE, newRow, earr] <;> rfl
    · have e1 : (Builtin.zeroCells (zeroOf ti).cells (cap' - (n + m))).toList.length = (cap' - (n + m)) * ti.size := by rw [← hzs]; exact Array.length_toList
      rw [e1, List.length_append, hcl, hlen, ← Nat.add_mul, ← Nat.add_mul]
      exact Nat.mul_le_mul_right _ (by omega)
theorem appends_slice {P : Program} {t2 e : TypeId} (hu : P.underlying t2 = some (.slice e)) {a : Option Addr} {m c size : Nat} {ds : List Value} {w : World} (h : readS a m size ds (hpOf w)) : Appends P t2 (.slice a m c) m size ds w :=
  ⟨.inl ⟨e, hu⟩, h.1, by simp [Builtin.lenOf], run_firstCells h⟩
def byteV (b : UInt8) : Value := .int .u8 b.toNat
def strCells (s : ByteArray) : List Value := s.data.toList.map byteV
theorem appends_string {P : Program} {t2 : TypeId} (hu : P.underlying t2 = some .string) (s : ByteArray) (w : World) : Appends P t2 (.string s) s.size 1 (strCells s) w := by
  refine ⟨.inr hu, by simp [strCells], by simp [Builtin.lenOf], ?_⟩
  simp only [Builtin.firstCells, ByteArray.extract_zero_size, Sem.run_pure]
  congr 1
  apply Array.ext'
  simp [strCells, byteV]

section
variable {N : Nat} {env : Env} {L : List Assn} {o : Oper} {post : Env → List Assn → Prop} {d : Nat}
/-- a type's size and bytes -/
def szL : TI → Option (Nat × Nat)
  | ⟨_, s, b, _, _, _⟩ => some (s, b)
theorem szL_eq {t : TI} {s b : Nat} (h : szL t = some (s, b)) : t.size = s ∧ t.bytes = b := by cases t; simp only [szL, Option.some.injEq, Prod.mk.injEq] at h; exact h
/-- append(s, y...), s owning its block, y another slice. -/
theorem OP.append {x y : Operand} {t t2 e e2 : TypeId} {ti tsl tsl2 : TI} {a a2 : Option Addr} {n cap m c2 sz by_ : Nat} {cs ds : List Value} {F : List Assn} (ho : o.op = .call ⟨.builtin .append, #[x, y], #[t, t2]⟩)
    (hx : rd none env x = some (none, .slice a n cap)) (hy : rd none env y = some (none, .slice a2 m c2)) (ht : G.T.find t = some tsl) (htd : tsl.desc = .slice e) (hte : G.T.find e = some ti) (hsz : szL ti = some (sz, by_)) (ht2 : G.T.find t2 = some tsl2) (htd2 : tsl2.desc = .slice e2)
    (hL : Imp L (ownS a n cap e sz cs :: F)) (hr : Ent L (readS a2 m sz ds)) (hone : allOne ds = true) (hb : (n + m) * by_ ≤ 140737488355328) (hmax : n + m ≤ 9223372036854775807)
    (hd : o.dst = some d) (hN : Nat.blt d N = true) (h : ∀ a' cap', post ((d, .val (.slice a' (n + m) cap')) :: env) (ownS a' (n + m) cap' e sz (cs ++ ds) :: F)) : OP G N o env L post := .mk fun ac w ha hs => by
  obtain ⟨e1, e2⟩ := szL_eq hsz
  have hu2 : G.P.underlying t2 = some (.slice _) := htd2 ▸ (Tab.find_ok G.ok ht2).desc
  obtain ⟨a', cap', w', r, s⟩ := run_append (ty := o.type) (y := .slice a2 m c2) (t2 := t2) G.ok ht htd hte (e1.symm ▸ hL.sat hs) (fun w' e => appends_slice hu2 (e1.symm ▸ e ▸ hr _ hs)) hone (e2.symm ▸ hb) hmax
  unfold Oper.wp
  have : (execOp ac.eval o).run G.P w = .ok (.value (.slice a' (n + m) cap')) w' := by
    rw [execOp, ho]
    simp only [resolve, Sem.run_bind, Sem.run_pure, Result.andThen_ok, invoke, builtin, List.map_toArray, List.map_cons, List.map_nil, rd_plain hx ha, rd_plain hy ha, r]
  rw [this]
  simp only [Oper.upon, hd]
  rw [e1] at s
  exact ⟨_, _, ha.put hN _, s, h a' cap'⟩
theorem OP.appendStr {x y : Operand} {t t2 e : TypeId} {ti tsl tsl2 : TI} {a : Option Addr} {n cap : Nat} {cs : List Value} {sv : ByteArray} {F : List Assn} (ho : o.op = .call ⟨.builtin .append, #[x, y], #[t, t2]⟩)
    (hx : rd none env x = some (none, .slice a n cap)) (hy : rd none env y = some (none, .string sv)) (ht : G.T.find t = some tsl) (htd : tsl.desc = .slice e) (hte : G.T.find e = some ti) (hsz : ti.size = 1) (hby : ti.bytes = 1) (ht2 : G.T.find t2 = some tsl2) (htd2 : tsl2.desc = .string)
    (hL : Imp L (ownS a n cap e 1 cs :: F)) (hb : n + sv.size ≤ 140737488355328)
    (hd : o.dst = some d) (hN : Nat.blt d N = true) (h : ∀ a' cap', post ((d, .val (.slice a' (n + sv.size) cap')) :: env) (ownS a' (n + sv.size) cap' e 1 (cs ++ strCells sv) :: F)) : OP G N o env L post := .mk fun ac w ha hs => by
  have hu2 : G.P.underlying t2 = some .string := htd2 ▸ (Tab.find_ok G.ok ht2).desc
  have hone : allOne (strCells sv) = true := by
    unfold strCells
    generalize sv.data.toList = l
    induction l with
    | nil => rfl
    | cons x r ih => simpa [allOne, one, byteV] using ih
  obtain ⟨a', cap', w', r, s⟩ := run_append (ty := o.type) (y := .string sv) (t2 := t2) (m := sv.size) (ds := strCells sv) (cs := cs) G.ok ht htd hte (by rw [hsz]; exact hL.sat hs) (fun w' _ => by rw [hsz]; exact appends_string hu2 sv w') hone (by rw [hby]; omega) (by omega)
  unfold Oper.wp
  have : (execOp ac.eval o).run G.P w = .ok (.value (.slice a' (n + sv.size) cap')) w' := by
    rw [execOp, ho]
    simp only [resolve, Sem.run_bind, Sem.run_pure, Result.andThen_ok, invoke, builtin, List.map_toArray, List.map_cons, List.map_nil, rd_plain hx ha, rd_plain hy ha, r]
  rw [this]
  simp only [Oper.upon, hd]
  rw [hsz] at s
  exact ⟨_, _, ha.put hN _, s, h a' cap'⟩
end
end
end Go.GL
/- Struct and slice literals; bytes and strings; make. -/
namespace Go.GL
open Go

/-- the parts of a literal, laid over its zero value: (place, size) by the part's number -/
def fillL (place : Nat → Option (Nat × Nat)) : List Value → List (Nat × Value) → Option (List Value)
  | c, [] => some c
  | c, (i, v) :: r => match place i, cellsOf v with
    | some (off, size), some vs => match Nat.beq vs.length size, setMany c off vs with
      | true, some c' => fillL place c' r
      | _, _ => none
    | _, _ => none
theorem foldl_set (vs : List Value) : ∀ (c : List Value) (off k : Nat) (c' : List Value), setMany c (off + k) vs = some c' →
    (vs.zipIdx k).foldl (fun cs x => Array.setIfInBounds cs (off + x.2) x.1) c.toArray = c'.toArray ∧ c'.length = c.length ∧ off + k + vs.length ≤ c.length + (if vs = [] then off + k else 0) := by
  induction vs with
  | nil =>
    intro c off k c' h
    simp only [setMany, Option.some.injEq] at h
    subst h
    exact ⟨rfl, rfl, by simp⟩
  | cons v vs ih =>
    intro c off k c' h
    simp only [setMany] at h
    split at h
    · rename_i c2 hc2
      obtain ⟨e, hlt⟩ := setOne_eq hc2
      obtain ⟨h1, h2, h3⟩ := ih c2 off (k + 1) c' h
      rw [List.zipIdx_cons, List.foldl_cons]
      have : Array.setIfInBounds c.toArray (off + k) v = c2.toArray := by rw [e]; simp
      simp only [this]
      refine ⟨h1, by rw [h2, e]; simp, ?_⟩
      have hl : c2.length = c.length := by rw [e]; simp
      cases vs with
      | nil => simp; omega
      | cons x y => simp at h3 ⊢; omega
    · cases h
theorem fill_eq {place place' : Nat → Option (Nat × Nat)} (hpp : ∀ i x, place i = some x → place' i = some x) : ∀ {parts : List (Nat × Value)} {c c' : List Value}, (∀ i off size, place i = some (off, size) → off + size ≤ c.length) → fillL place c parts = some c' → Instr.fill place' c.toArray parts = some c'.toArray
  | [], c, c', _, h => by simp only [fillL, Option.some.injEq] at h; subst h; rfl
  | (i, v) :: r, c, c', hp, h => by
    simp only [fillL] at h
    split at h
    · rename_i off size vs hpl hvs
      split at h
      · rename_i c2 hb hs
        have hlen := Nat.eq_of_beq_eq_true hb
        obtain ⟨h1, h2, _⟩ := foldl_set vs c off 0 c2 hs
        have hle := hp _ _ _ hpl
        have hc := cellsOf_eq hvs
        simp only [Instr.fill, hpp _ _ hpl, hc, List.size_toArray, hlen]
        rw [if_neg (by simp; omega)]
        have : Array.foldl (fun cs x => Array.setIfInBounds cs (off + x.2) x.1) c.toArray (vs.toArray.zipIdx) = c2.toArray := by
          rw [← h1]
          simp
        rw [this]
        exact fill_eq hpp (fun i off size e => by rw [h2]; exact hp i off size e) h
      · cases h
    · cases h

def rdParts (env : Env) : List (Nat × Operand) → Option (List (Nat × Value))
  | [] => some []
  | (i, x) :: r => match rd none env x with
    | some (none, v) => match rdParts env r with
      | some l => some ((i, v) :: l)
      | none => none
    | _ => none
theorem rdParts_ok {N : Nat} {env : Env} {a : Act} (ha : Agree N env a) : ∀ {xs : List (Nat × Operand)} {vs : List (Nat × Value)}, rdParts env xs = some vs → xs.map (fun x => (x.1, a.eval x.2)) = vs
  | [], vs, h => by cases h; rfl
  | (i, x) :: r, vs, h => by
    simp only [rdParts] at h
    split at h
    · rename_i v hv
      split at h
      · rename_i l hl; cases h; rw [List.map_cons, rd_plain hv ha, rdParts_ok ha hl]
      · cases h
    · cases h
def sPlaces (T : Tab) : List Field → Option (List (Nat × Nat))
  | [] => some []
  | f :: r => match T.find f.type, sPlaces T r with
    | some ti, some l => some ((f.offset, ti.size) :: l)
    | _, _ => none
def nthP : List (Nat × Nat) → Nat → Option (Nat × Nat)
  | [], _ => none
  | v :: _, 0 => some v
  | _ :: r, n + 1 => nthP r n
theorem nthP_eq (l : List (Nat × Nat)) (n : Nat) : nthP l n = l[n]? := by
  induction l generalizing n with
  | nil => rfl
  | cons v r ih => cases n <;> simp [nthP, ih]
def allFit (n : Nat) : List (Nat × Nat) → Bool
  | [] => true
  | (o, s) :: r => match Nat.ble (o + s) n with
    | true => allFit n r
    | false => false
theorem allFit_ok {n : Nat} {l : List (Nat × Nat)} (h : allFit n l = true) : ∀ (i o s : Nat), l[i]? = some (o, s) → o + s ≤ n := by
  induction l with
  | nil => intro i o s e; simp at e
  | cons x r ih =>
    obtain ⟨o', s'⟩ := x
    simp only [allFit] at h
    split at h
    · rename_i hb
      intro i o s e
      cases i with
      | zero => simp at e; obtain ⟨rfl, rfl⟩ := e; exact Nat.le_of_ble_eq_true hb
      | succ i => exact ih h i o s (by simpa using e)
    · cases h
/-- a struct's literal -/
def evBuild (T : Tab) (env : Env) (t : TypeId) (parts : List (Nat × Operand)) : Option Value :=
  match T.find t with
  | some ⟨.struct fs, _, _, z, true, _⟩ => match sPlaces T fs.toList, rdParts env parts with
    | some pl, some ps => match allFit z.length pl, fillL (nthP pl) z ps with
      | true, some c => some (.agg c.toArray)
      | _, _ => none
    | _, _ => none
  | some ⟨.array n e, _, _, z, true, _⟩ => match T.find e, rdParts env parts with
    | some ti, some ps => match Nat.beq (n * ti.size) z.length, fillL (fun i => match Nat.blt i n with | true => some (i * ti.size, ti.size) | false => none) z ps with
      | true, some c => some (.agg c.toArray)
      | _, _ => none
    | _, _ => none
  | _ => none
section
variable {G : Ctx} {N : Nat} {env : Env} {L : List Assn} {o : Oper} {post : Env → List Assn → Prop} {d : Nat}
theorem run_places {P : Program} {T : Tab} (hT : T.ok P) (w : World) : ∀ {fs : List Field} {pl : List (Nat × Nat)}, sPlaces T fs = some pl → (fs.mapM (fun f => do Pure.pure (f.offset, ← sizeOf f.type) : Field → Sem (Nat × Nat))).run P w = .ok pl w
  | [], pl, h => by cases h; simp
  | f :: r, pl, h => by
    simp only [sPlaces] at h
    split at h
    · rename_i ti l h1 h2
      cases h
      have ih := run_places hT w h2
      simp only [bind_pure_comp] at ih ⊢
      simp [run_size (Tab.find_ok hT h1), ih]
    · cases h
theorem val_run' {P : Program} {s : Sem Value} {v : Value} {w w' : World} (h : s.run P w = .ok v w') : (do Pure.pure (Next.value (← s)) : Sem Next).run P w = .ok (.value v) w' := by
  simp only [Sem.run_bind, h, Result.andThen_ok, Sem.run_pure]
theorem zero_agg {ti : TI} (h : ti.agg = true) : (zeroOf ti).cells = ti.zero.toArray := by simp [zeroOf, h, Value.cells]
theorem OP.buildT {t : TypeId} {ps : List (Nat × Operand)} {v : Value} (ho : o.op = .build t ps.toArray) (hv : evBuild G.T env t ps = some v) (hd : o.dst = some d) (hN : Nat.blt d N = true) (h : post ((d, .val v) :: env) L) : OP G N o env L post :=
  .run (fun a w ha _ => by
    rw [execOp, ho]
    refine val_run ?_
    unfold evBuild at hv
    split at hv
    · rename_i fs sz by_ z cm ht
      have e := Tab.find_ok G.ok ht
      split at hv
      · rename_i pl pv hpl hpv
        split at hv
        · rename_i c hfit hfill
          cases hv
          have hpv' := rdParts_ok ha hpv
          have hp := run_places (P := G.P) G.ok w hpl
          have hf := fill_eq (place' := nthP pl) (fun _ _ h => h) (fun i off size ei => allFit_ok hfit i off size (by rw [← nthP_eq]; exact ei)) hfill
          have hun : G.P.underlying t = some (.struct fs) := e.desc
          have hz : (zeroOf ⟨.struct fs, sz, by_, z, true, cm⟩).cells = z.toArray := zero_agg rfl
          have hmap : (fs.mapM (fun f => do Pure.pure (f.offset, ← sizeOf f.type) : Field → Sem (Nat × Nat))).run G.P w = .ok pl.toArray w := by
            obtain ⟨fl⟩ := fs
            rw [List.mapM_toArray]
            simp only [Sem.run_map]
            rw [hp]; rfl
          have hplace : (fun i => pl.toArray[i]?) = nthP pl := by funext i; rw [nthP_eq]; simp
          simp only [Instr.build, Sem.run_bind, run_zero e, Result.andThen_ok, run_underlying hun, hz, hmap, List.map_toArray, hpv', hplace, hf, Sem.run_pure]
        · cases hv
      · cases hv
    · rename_i n el sz by_ z cm ht
      have e := Tab.find_ok G.ok ht
      split at hv
      · rename_i ti pv hti hpv
        split at hv
        · rename_i c hb hfill
          cases hv
          have hpv' := rdParts_ok ha hpv
          have hlen := Nat.eq_of_beq_eq_true hb
          have hf := fill_eq (place' := fun i => some (i * ti.size, ti.size)) (fun i x hx => by
              split at hx
              · exact hx
              · cases hx) (fun i off size ei => by
              split at ei
              · rename_i hlt
                cases ei
                have hlt : i < n := by simpa [Nat.blt_eq] using hlt
                rw [← hlen, ← Nat.succ_mul]
                exact Nat.mul_le_mul_right _ hlt
              · cases ei) hfill
          have hun : G.P.underlying t = some (.array n el) := e.desc
          have hz : (zeroOf ⟨.array n el, sz, by_, z, true, cm⟩).cells = z.toArray := zero_agg rfl
          simp only [Instr.build, Sem.run_bind, run_zero e, Result.andThen_ok, run_underlying hun, hz, run_size (Tab.find_ok G.ok hti), List.map_toArray, hpv', hf, Sem.run_pure]
        · cases hv
      · cases hv
    · cases hv) hd hN h

def repL (z : List Value) : Nat → List Value
  | 0 => []
  | n + 1 => z ++ repL z n
theorem repL_length (z : List Value) (n : Nat) : (repL z n).length = n * z.length := by
  induction n with
  | zero => simp [repL]
  | succ n ih => simp [repL, ih, Nat.succ_mul, Nat.add_comm]
theorem repL_get (z : List Value) (n i : Nat) (h : i < n * z.length) : (repL z n)[i]? = z[i % z.length]? := by
  induction n generalizing i with
  | zero => simp at h
  | succ n ih =>
    unfold repL
    rw [Nat.succ_mul] at h
    by_cases hi : i < z.length
    · rw [List.getElem?_append_left hi, Nat.mod_eq_of_lt hi]
    · rw [List.getElem?_append_right (by omega), ih _ (by omega)]
      congr 1
      have : i = (i - z.length) + z.length := by omega
      conv => rhs; rw [this]
      rw [Nat.add_mod_right]
theorem rep_eq (z : Array Value) (n : Nat) : (Array.range (n * z.size)).map (fun i => z[i % z.size]!) = (repL z.toList n).toArray := by
  apply Array.ext
  · simp [repL_length]
  · intro i h1 h2
    have hi : i < n * z.toList.length := by simpa using h1
    have hpos : 0 < z.size := by
      rcases Nat.eq_zero_or_pos z.size with h | h
      · simp [h] at h1
      · exact h
    have := repL_get z.toList n i hi
    have hlt : i % z.size < z.size := Nat.mod_lt _ hpos
    simp only [Array.length_toList] at this
    have e1 : (repL z.toList n).toArray[i] = (repL z.toList n)[i]'(by simpa using h2) := by simp
    rw [e1]
    have h3 : (repL z.toList n)[i]? = some ((repL z.toList n)[i]'(by simpa using h2)) := List.getElem?_eq_getElem _
    rw [this] at h3
    simp [hlt] at h3
    rw [← h3]
    simp [hlt]
/-- a slice's literal: a new block -/
def evSliceLit (T : Tab) (env : Env) (e len : Nat) (parts : List (Nat × Operand)) : Option (List Value) :=
  match T.find e, rdParts env parts with
  | some ti, some ps => match Nat.ble (len * ti.size) 1000, Nat.ble 1 (len * ti.size) with
    | true, true => fillL (fun i => match Nat.blt i len with | true => some (i * ti.size, ti.size) | false => none) (repL ti.zero len) ps
    | _, _ => none
  | _, _ => none
theorem OP.sliceLit {t e len sz by_ : Nat} {ps : List (Nat × Operand)} {ti tsl : TI} {c : List Value} (ho : o.op = .buildSlice t len ps.toArray) (ht : G.T.find t = some tsl) (htd : tsl.desc = .slice e) (hte : G.T.find e = some ti) (hsz : szL ti = some (sz, by_)) (hv : evSliceLit G.T env e len ps = some c) (hd : o.dst = some d) (hN : Nat.blt d N = true)
    (h : ∀ b, post ((d, .val (.slice (some ⟨b, 0, none⟩) len len)) :: env) (ownS (some ⟨b, 0, none⟩) len len e sz c :: L)) : OP G N o env L post := .mk fun a w ha hs => by
  have hz1 := (szL_eq hsz).1
  subst hz1
  have eT := Tab.find_ok G.ok ht
  have eE := Tab.find_ok G.ok hte
  have hun : G.P.underlying t = some (.slice e) := htd ▸ eT.desc
  unfold evSliceLit at hv
  rw [hte] at hv
  split at hv
  · rename_i ti' ps' e1 hps
    cases e1
    split at hv
    · rename_i hb1 hb2
      have hb1 := Nat.le_of_ble_eq_true hb1
      have hb2 := Nat.le_of_ble_eq_true hb2
      have hpv' := rdParts_ok ha hps
      have hf := fill_eq (place' := fun i => some (i * ti.size, ti.size)) (fun i x hx => by
          split at hx
          · exact hx
          · cases hx) (fun i off size ei => by
          split at ei
          · rename_i hlt
            cases ei
            have hlt : i < len := by simpa [Nat.blt_eq] using hlt
            rw [repL_length, eE.zero, ← Nat.succ_mul]
            exact Nat.mul_le_mul_right _ hlt
          · cases ei) hv
      have hclen : c.length = len * ti.size := by
        have key : ∀ {place : Nat → Option (Nat × Nat)} (ps : List (Nat × Value)) (c c' : List Value), fillL place c ps = some c' → c'.length = c.length := by
          intro place ps
          induction ps with
          | nil => intro c c' h; simp only [fillL, Option.some.injEq] at h; rw [h]
          | cons x r ih =>
            obtain ⟨i, v⟩ := x
            intro c c' h
            simp only [fillL] at h
            split at h
            · split at h
              · rename_i hs
                rw [ih _ _ h, (foldl_set _ _ _ 0 _ hs).2.1]
              · cases h
            · cases h
        rw [key _ _ _ hv, repL_length, eE.zero]
      have hz : (zeroOf ti).cells = ti.zero.toArray := eE.zcells
      have hzs : (zeroOf ti).cells.size = ti.size := by rw [hz]; simp [eE.zero]
      have hrep := rep_eq (zeroOf ti).cells len
      rw [hzs, hz] at hrep
      simp only at hrep
      unfold Oper.wp
      have : (execOp a.eval o).run G.P w = .ok (.value (.slice (some ⟨w.heap.size, 0, none⟩) len len)) { w with heap := w.heap.push (.cells c.toArray e) } := by
        rw [execOp, ho]
        refine val_run' ?_
        have h1 : ¬ (len * ti.size > 2 ^ 24) := by omega
        simp only [Instr.buildSlice, Sem.run_bind, run_underlying hun, Result.andThen_ok, run_size eE, h1, if_false]
        have h0 : ¬ (len * ti.size = 0) := by omega
        simp only [h0, if_false, Sem.run_bind, run_zero eE, Result.andThen_ok, Sem.run_pure, List.map_toArray, hpv', hz, List.size_toArray, eE.zero, hrep, hf]
        simp [newRow]
      rw [this]
      simp only [Oper.upon, hd]
      refine ⟨_, _, ha.put hN _, stars_head_mono (fun k hk => ⟨hclen, Nat.le_refl _, .inr ⟨_, [], [], rfl, by simp [hclen], by simpa using hk⟩⟩) (hs.new c e), h _⟩
    · cases hv
  · cases hv
end
end Go.GL
/- Bytes and strings, make. -/
namespace Go.GL
open Go
section
variable {G : Ctx} {N : Nat} {env : Env} {L : List Assn} {o : Oper} {post : Env → List Assn → Prop} {d : Nat}
theorem strCells_length (s : ByteArray) : (strCells s).length = s.size := by simp [strCells]
theorem push_all {f : Value → ByteArray → Sem (ForInStep ByteArray)} (hf : ∀ b s, f (byteV b) s = Pure.pure (.yield (s.push b))) (l : List UInt8) : ∀ (s : ByteArray) (P : Program) (w : World),
    (forIn (m := Sem) (l.map byteV) s f).run P w = .ok ⟨(s.data.toList ++ l).toArray⟩ w := by
  induction l with
  | nil => intro s P w; simp
  | cons b r ih =>
    intro s P w
    simp only [List.map_cons, List.forIn_cons, hf, Sem.run_bind, Sem.run_pure, Result.andThen_ok]
    rw [ih (s.push b) P w]
    simp
/-- string(b) -/
theorem OP.toStr {s t e : TypeId} {x : Operand} {a : Option Addr} {n cap : Nat} {sv : ByteArray} {tis tit tie : TI} (ho : o.op = .convert s t x) (hx : rd none env x = some (none, .slice a n cap)) (hs : G.T.find s = some tis) (hsd : tis.desc = .slice e) (ht : G.T.find t = some tit) (htd : tit.desc = .string)
    (hte : G.T.find e = some tie) (hed : tie.desc = .int .u8) (hr : Ent L (readS a n 1 (strCells sv))) (hd : o.dst = some d) (hN : Nat.blt d N = true) (h : post ((d, .val (.string sv)) :: env) L) : OP G N o env L post :=
  .run (fun ac w ha hsat => by
    have us : G.P.underlying s = some (.slice e) := hsd ▸ (Tab.find_ok G.ok hs).desc
    have ut : G.P.underlying t = some .string := htd ▸ (Tab.find_ok G.ok ht).desc
    have ue : G.P.underlying e = some (.int .u8) := hed ▸ (Tab.find_ok G.ok hte).desc
    rw [execOp, ho]
    refine val_run ?_
    obtain ⟨e1, hh⟩ := hr _ hsat
    simp only [convert, Sem.run_bind, run_underlying us, run_underlying ut, Result.andThen_ok, rd_plain hx ha, run_underlying ue]
    rcases hh with ⟨rfl, rfl⟩ | ⟨b, off, rfl, hc⟩
    · have : sv = ByteArray.empty := by
        rw [strCells_length] at e1
        have h0 : sv.size = 0 := by simpa using e1
        exact ByteArray.size_eq_zero_iff.1 h0
      simp [Conv.bytesToString, this]
    · have hl := run_cells (P := G.P) hc (strCells sv).length 0 #[] (by omega)
      simp only [List.drop_zero, Array.empty_append] at hl
      have e1 : (strCells sv).length = n := by simpa using e1
      have hl' : (loadCells ⟨b, off, none⟩ n).run G.P w = .ok (strCells sv).toArray w := by rw [← e1]; exact hl
      simp only [Conv.bytesToString, Sem.run_bind, hl', Result.andThen_ok]
      rw [List.forIn_toArray]
      unfold strCells
      rw [push_all (fun b s => by simp [byteV]) sv.data.toList ByteArray.empty G.P w]
      simp) hd hN h
end
end Go.GL
