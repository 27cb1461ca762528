/- Contracts of functions of the given program, and plain laws: parts of the proofs of laws. -/
import Derived.Test.YtanjfjiaheghcaaGreatDoorZPX5
import Derived.Test.YtanjfjiaheghcaaGreatDoorZPX3
import Derived.Scope
/- Stores into what a slice owns. -/
namespace Go.GL
open Go
theorem setMany_app : ∀ (vs pre cs post : List Value) (i : Nat) {cs' : List Value}, setMany cs i vs = some cs' → setMany (pre ++ cs ++ post) (pre.length + i) vs = some (pre ++ cs' ++ post) ∧ cs'.length = cs.length
  | [], pre, cs, post, i, cs', h => by cases h; exact ⟨rfl, rfl⟩
  | v :: vs, pre, cs, post, i, cs', h => by
    simp only [setMany] at h
    split at h
    · rename_i c2 hc2
      obtain ⟨e, hlt⟩ := setOne_eq hc2
      obtain ⟨h1, h2⟩ := setMany_app vs pre c2 post (i + 1) h
      have h3 : setOne (pre ++ cs ++ post) (pre.length + i) v = some (pre ++ c2 ++ post) := by
        rw [setOne_lt _ (by simp; omega), e]
        congr 1
        rw [List.append_assoc, List.set_append_right _ _ (by omega), Nat.add_sub_cancel_left, List.set_append_left _ _ hlt, List.append_assoc]
      simp only [setMany, h3]
      exact ⟨h1, h2.trans (by rw [e, List.length_set])⟩
    · cases h
section
variable {G : Ctx} {N : Nat} {env : Env} {L : List Assn} {o : Oper} {post : Env → List Assn → Prop}
/-- a store into an element -/
theorem OP.storeO {t : TypeId} {x y : Operand} {b off i n cap size : Nat} {T : TypeId} {ti : TI} {v : Value} {vs cs cs' : List Value} {F : List Assn} (ho : o.op = .store t x y) (hx : rd none env x = some (none, .pointer (some ⟨b, off + i, none⟩)))
    (hy : rd none env y = some (none, v)) (ht : G.T.find t = some ti) (hv : cellsOf v = some vs) (h1 : allOne vs = true) (hl : vs.length = ti.size) (hL : Imp L (ownS (some ⟨b, off, none⟩) n cap T size cs :: F)) (hs : setMany cs i vs = some cs') (hd : o.dst = none)
    (h : post env (ownS (some ⟨b, off, none⟩) n cap T size cs' :: F)) : OP G N o env L post := .mk fun a w ha hsat => by
  obtain ⟨h1', h2, d, e', ⟨hcl, hle, hown⟩, rest⟩ := hL.sat hsat
  rcases hown with ⟨e, _⟩ | ⟨b', pre, post', e, hcap, hblk⟩
  · cases e
  · obtain ⟨hb, hoff⟩ : b = b' ∧ off = pre.length := by
      simp only [Option.some.injEq, Addr.mk.injEq] at e; exact ⟨e.1, e.2.1⟩
    subst hb hoff
    obtain ⟨s1, s2⟩ := setMany_app vs pre cs post' i hs
    have hsat' : Sat (blk b (pre ++ cs ++ post') T :: F) w := ⟨h1', h2, d, e', hblk, rest⟩
    refine wp_oper_mono ?_ (fun _ _ _ h => h) ((OP.store (G := G) (N := N) (L := blk b (pre ++ cs ++ post') T :: F) (post := fun e M => e = env ∧ M = blk b (pre ++ cs' ++ post') T :: F) ho hx hy ht hv h1 hl (UpdM.here s1) hd ⟨rfl, rfl⟩).go a w ha hsat')
    rintro a' w' ⟨e1, M, x, y, rfl, rfl⟩
    exact ⟨e1, _, x, stars_head_mono (fun k hk => ⟨s2.trans hcl, hle, .inr ⟨b, pre, post', rfl, by rw [s2]; exact hcap, hk⟩⟩) y, h⟩
end
/-! ### elements of several cells, where the elements of the list at hand have so many -/
theorem flatM_len {α : Type} {f : α → List Value} {z : Nat} : ∀ {l : List α}, (∀ x ∈ l, (f x).length = z) → (l.flatMap f).length = l.length * z
  | [], _ => by simp
  | x :: l, h => by rw [List.flatMap_cons, List.length_append, h x List.mem_cons_self, flatM_len (fun y hy => h y (List.mem_cons_of_mem _ hy)), List.length_cons, Nat.succ_mul, Nat.add_comm]
theorem flatM_drop {α : Type} {f : α → List Value} {z : Nat} : ∀ {l : List α} (_ : ∀ x ∈ l, (f x).length = z) (k : Nat), (l.flatMap f).drop (k * z) = (l.drop k).flatMap f
  | [], _, k => by simp
  | x :: l, _, 0 => by simp
  | x :: l, h, k + 1 => by
    have hx := h x List.mem_cons_self
    rw [List.flatMap_cons, List.drop_succ_cons, ← flatM_drop (fun y hy => h y (List.mem_cons_of_mem _ hy)) k, Nat.succ_mul, Nat.add_comm, ← List.drop_drop]
    congr 1
    rw [List.drop_append_of_le_length (by rw [hx]; exact Nat.le_refl _), List.drop_eq_nil_of_le (by rw [hx]; exact Nat.le_refl _), List.nil_append]
theorem flatM_cut {α : Type} {f : α → List Value} {z : Nat} {l : List α} (h : ∀ x ∈ l, (f x).length = z) {k : Nat} (hk : k < l.length) : f l[k] = ((l.flatMap f).drop (k * z)).take z := by
  have hx := h l[k] (List.getElem_mem hk)
  rw [flatM_drop h, List.drop_eq_getElem_cons hk, List.flatMap_cons, List.take_append_of_le_length (by rw [hx]; exact Nat.le_refl _), List.take_of_length_le (by rw [hx]; exact Nat.le_refl _)]
theorem flatM_set {α : Type} {f : α → List Value} {z : Nat} {l : List α} (h : ∀ x ∈ l, (f x).length = z) {k : Nat} {x : α} (hk : k < l.length) (hx : (f x).length = z) : setMany (l.flatMap f) (k * z) (f x) = some ((l.set k x).flatMap f) := by
  have h1 : l.flatMap f = (l.take k).flatMap f ++ f l[k] ++ (l.drop (k + 1)).flatMap f := by
    conv => lhs; rw [← List.take_append_drop k l, List.drop_eq_getElem_cons hk]
    rw [List.flatMap_append, List.flatMap_cons, List.append_assoc]
  have h2 : (l.set k x).flatMap f = (l.take k).flatMap f ++ f x ++ (l.drop (k + 1)).flatMap f := by
    rw [List.set_eq_take_append_cons_drop, if_pos hk, List.flatMap_append, List.flatMap_cons, List.append_assoc]
  rw [h2, h1]
  have h3 := setMany_mid (f x) ((l.take k).flatMap f) (f l[k]) ((l.drop (k + 1)).flatMap f) (by rw [hx, h _ (List.getElem_mem hk)])
  rw [flatM_len (z := z) (fun y hy => h y (List.mem_of_mem_take hy)), List.length_take, Nat.min_eq_left (by omega)] at h3
  exact h3
theorem Ent.elMA {L : List Assn} {α : Type} {f : α → List Value} {z : Nat} {l : List α} (hz : ∀ x ∈ l, (f x).length = z) {n k b off : Nat} (hr : Ent L (readS (Option.some ⟨b, off, Option.none⟩) n z (l.flatMap f))) (h : k < l.length) :
    Ent L (cellsAt b (off + k * z) (f l[k])) := Ent.elems hr rfl (by rw [hz _ (List.getElem_mem h)]; exact flatM_cut hz h)
theorem setMany_all {old vs : List Value} (h : old.length = vs.length) : setMany old 0 vs = some vs := by
  have := setMany_mid vs [] old [] h
  simpa using this
theorem takeL_all : ∀ (l : List Value), takeL l l.length = some l
  | [] => rfl
  | x :: r => by simp only [List.length_cons, takeL, takeL_all r]
theorem cutL_all {l : List Value} {n : Nat} (h : l.length = n) : cutL l 0 n = some l := by subst h; cases l <;> exact takeL_all _
end Go.GL
/- Contracts of functions of the given program, and plain laws on what they compute: parts of the proofs of laws. -/
namespace Go.Proofs.YtanjfjiaheghcaaGreatDoor
open Go Go.GL

/-- a disk: its sectors, its loose writes -/
structure Dsk where
  S : List (List UInt8)
  W : List (Nat × List UInt8)
def zero64 : List UInt8 := List.replicate 64 0
structure Dsk.ok (D : Dsk) : Prop where
  s64 : ∀ s ∈ D.S, s.length = 64
  w64 : ∀ x ∈ D.W, x.1 < D.S.length ∧ x.2.length = 64
  few : D.S.length ≤ 1024
def Dsk.new (n : Int) : Dsk := ⟨List.replicate (max 0 (min n 1024)).toNat zero64, []⟩
def curF (i : Nat) (s : List UInt8) (W : List (Nat × List UInt8)) : List UInt8 := W.foldl (fun s x => if x.1 = i then x.2 else s) s
/-- what a sector reads as -/
def Dsk.cur (D : Dsk) (i : Nat) : List UInt8 := curF i (D.S.getD i []) D.W
def settleF (kept : Nat → Bool) : Nat → List (Nat × List UInt8) → List (List UInt8) → List (List UInt8)
  | _, [], S => S
  | k, x :: r, S => settleF kept (k + 1) r (if kept k = true then S.set x.1 x.2 else S)
def Dsk.settle (D : Dsk) (kept : Nat → Bool) : Dsk := ⟨settleF kept 0 D.W D.S, []⟩
def Dsk.flush (D : Dsk) : Dsk := D.settle (fun _ => true)
def keeps (keep : Int) (k : Nat) : Bool := keep.toNat.testBit (k % 64)
def Dsk.crash (D : Dsk) (keep : Int) : Dsk := D.settle (keeps keep)
/-- a write that can be -/
def Dsk.put (D : Dsk) (i : Nat) (b : List UInt8) : Dsk := ⟨D.S, D.W ++ [(i, b)]⟩

theorem settleF_length (kept : Nat → Bool) : ∀ (W : List (Nat × List UInt8)) (k : Nat) (S : List (List UInt8)), (settleF kept k W S).length = S.length
  | [], _, _ => rfl
  | x :: r, k, S => by
    rw [settleF, settleF_length kept r]
    split <;> simp
theorem settleF_64 (kept : Nat → Bool) : ∀ (W : List (Nat × List UInt8)) (k : Nat) (S : List (List UInt8)), (∀ s ∈ S, s.length = 64) → (∀ x ∈ W, x.2.length = 64) → ∀ s ∈ settleF kept k W S, s.length = 64
  | [], _, _, h, _ => h
  | x :: r, k, S, h, hw => by
    rw [settleF]
    refine settleF_64 kept r (k + 1) _ ?_ (fun y hy => hw y (List.mem_cons_of_mem _ hy))
    split
    · intro s hs
      rcases List.mem_or_eq_of_mem_set hs with h1 | h1
      · exact h s h1
      · rw [h1]; exact hw x List.mem_cons_self
    · exact h
theorem Dsk.settle_ok {D : Dsk} (h : D.ok) (kept : Nat → Bool) : (D.settle kept).ok :=
  ⟨settleF_64 kept D.W 0 D.S h.s64 (fun x hx => (h.w64 x hx).2), (by intro x hx; cases hx), by show (settleF kept 0 D.W D.S).length ≤ 1024; rw [settleF_length]; exact h.few⟩
theorem Dsk.settle_len (D : Dsk) (kept : Nat → Bool) : (D.settle kept).S.length = D.S.length := settleF_length _ _ _ _
theorem Dsk.put_ok {D : Dsk} (h : D.ok) {i : Nat} {b : List UInt8} (hi : i < D.S.length) (hb : b.length = 64) : (D.put i b).ok :=
  ⟨h.s64, fun x hx => by
    rcases List.mem_append.1 hx with hx | hx
    · exact h.w64 x hx
    · rw [List.mem_singleton.1 hx]; exact ⟨hi, hb⟩, h.few⟩
theorem Dsk.new_ok (n : Int) : (Dsk.new n).ok :=
  ⟨fun s hs => by rw [List.eq_of_mem_replicate hs]; exact List.length_replicate, (by intro x hx; cases hx), by simp only [Dsk.new, List.length_replicate]; omega⟩
theorem curF_snoc (i : Nat) (s : List UInt8) (W : List (Nat × List UInt8)) (x : Nat × List UInt8) : curF i s (W ++ [x]) = if x.1 = i then x.2 else curF i s W := by
  unfold curF; rw [List.foldl_append]; rfl
theorem curF_64 {i : Nat} {s : List UInt8} {W : List (Nat × List UInt8)} (hs : s.length = 64) (hw : ∀ x ∈ W, x.2.length = 64) : (curF i s W).length = 64 := by
  unfold curF
  induction W generalizing s with
  | nil => exact hs
  | cons x r ih =>
    rw [List.foldl_cons]
    refine ih ?_ (fun y hy => hw y (List.mem_cons_of_mem _ hy))
    split
    · exact hw x List.mem_cons_self
    · exact hs
theorem Dsk.cur_64 {D : Dsk} (h : D.ok) {i : Nat} (hi : i < D.S.length) : (D.cur i).length = 64 :=
  curF_64 (h.s64 _ (by rw [List.getD_eq_getElem?_getD, List.getElem?_eq_getElem hi]; exact List.getElem_mem hi)) (fun x hx => (h.w64 x hx).2)
theorem settleF_snoc (kept : Nat → Bool) : ∀ (W : List (Nat × List UInt8)) (k : Nat) (S : List (List UInt8)) (x : Nat × List UInt8), settleF kept k (W ++ [x]) S = if kept (k + W.length) = true then (settleF kept k W S).set x.1 x.2 else settleF kept k W S
  | [], k, S, x => by simp [settleF]
  | y :: r, k, S, x => by
    rw [List.cons_append, settleF, settleF, settleF_snoc kept r (k + 1) _ x, List.length_cons]
    rw [show k + 1 + r.length = k + (r.length + 1) by omega]
/-- what reads the same before and behind a flush -/
theorem settle_true_get : ∀ (W : List (Nat × List UInt8)) (k : Nat) (S : List (List UInt8)) (i : Nat), i < S.length → (settleF (fun _ => true) k W S).getD i [] = curF i (S.getD i []) W
  | [], _, _, _, _ => rfl
  | x :: r, k, S, i, hi => by
    rw [settleF, if_pos rfl, settle_true_get r (k + 1) _ i (by simpa using hi)]
    unfold curF
    rw [List.foldl_cons]
    congr 1
    by_cases h : x.1 = i
    · subst h; simp [hi]
    · rw [if_neg h, List.getD_eq_getElem?_getD, List.getD_eq_getElem?_getD, List.getElem?_set_ne h]
theorem Dsk.flush_cur (D : Dsk) {i : Nat} (hi : i < D.S.length) : D.flush.cur i = D.cur i := settle_true_get D.W 0 D.S i hi
end Go.Proofs.YtanjfjiaheghcaaGreatDoor
/- copy; function values, and calls of them. -/
namespace Go.GL
open Go
section
variable {G : Ctx} {N : Nat} {env : Env} {L : List Assn} {o : Oper} {post : Env → List Assn → Prop} {d : Nat}
theorem run_firstCellsK {P : Program} {w : World} {a : Option Addr} {n k size c : Nat} {cs : List Value} (h : readS a n size cs (hpOf w)) (hk : k ≤ n) : (Builtin.firstCells size k (.slice a n c)).run P w = .ok (cs.take (k * size)).toArray w := by
  have h2 := readS_take h hk
  obtain ⟨e, ⟨rfl, rfl⟩ | ⟨b, off, rfl, hc⟩⟩ := h2
  · have : cs.take (0 * size) = [] := by simp
    rw [this]
    simp only [Builtin.firstCells, Sem.run_pure]; try rfl
  · have := run_cells (P := P) hc (cs.take (k * size)).length 0 #[] (by omega)
    simp only [List.drop_zero, Array.empty_append] at this
    rw [e] at this
    simp only [Builtin.firstCells, loadCells, this]
/-- copy(x, y), x cells of a block -/
theorem OP.copyB {x y : Operand} {t t2 e : TypeId} {ti tsl : TI} {b off n cap m c2 sz : Nat} {a2 : Option Addr} {ds vs : List Value} {M : List Assn} (ho : o.op = .call ⟨.builtin .copy, #[x, y], #[t, t2]⟩)
    (hx : rd none env x = some (none, .slice (some ⟨b, off, none⟩) n cap)) (hy : rd none env y = some (none, .slice a2 m c2)) (ht : G.T.find t = some tsl) (htd : tsl.desc = .slice e) (hte : G.T.find e = some ti) (hsz : sizeL ti = some sz)
    (hr : Ent L (readS a2 m sz ds)) (hv : ds.take (min m n * sz) = vs) (hone : allOne vs = true) (hu : UpdM L b off vs M) (hd : o.dst = some d) (hN : Nat.blt d N = true) (h : post ((d, .val (.int .i64 (min m n : Nat))) :: env) M) : OP G N o env L post := .mk fun ac w ha hs => by
  have es := sizeL_eq hsz
  have hu1 : G.P.underlying t = some (.slice e) := htd ▸ (Tab.find_ok G.ok ht).desc
  have eE := Tab.find_ok G.ok hte
  obtain ⟨c, c', T, hc, hu⟩ := hu.upd
  obtain ⟨w', r, s⟩ := run_stores (P := G.P) vs off 0 c c' L M w (allOne_mem hone) hc hu hs
  have hf := run_firstCellsK (P := G.P) (c := c2) (hr _ hs) (show min m n ≤ m from Nat.min_le_left _ _)
  rw [hv] at hf
  unfold Oper.wp
  have : (execOp ac.eval o).run G.P w = .ok (.value (.int .i64 (min m n : Nat))) w' := by
    rw [execOp, ho]
    have hmin : Nat.min m n = min m n := rfl
    simp [resolve, invoke, builtin, rd_plain hx ha, rd_plain hy ha, Builtin.copy_, run_underlying hu1, Builtin.lenOf, run_size eE, es, hmin, hf, r, goInt]
  rw [this]
  simp only [Oper.upon, hd]
  exact ⟨_, _, ha.put hN _, s, h⟩
/-- a function value with what it has caught -/
theorem OP.makeF {f : FuncId} {xs : List Operand} {vs : List Value} (ho : o.op = .makeFunc (.func f) #[] xs.toArray) (hv : rdAll env xs = some vs) (hd : o.dst = some d) (hN : Nat.blt d N = true) (h : post ((d, .val (.func (.func f) #[] vs.toArray)) :: env) L) : OP G N o env L post :=
  .run (fun a w ha _ => by
    rw [execOp, ho]
    have := rdAll_ok ha hv
    simp [Instr.makeFunc, ← this]) hd hN h
theorem run_callV {P : Program} {f : FuncId} {x : Operand} {xs : List Operand} {ats : Array TypeId} {a : Act} {vs caps : List Value} (he : Enters P f) (hx : a.eval x = .func (.func f) #[] caps.toArray) (hv : xs.map a.eval = vs) (dst : Option Tmp) (ty : TypeId) (pos : String) (after : Array Edge) (guard : Option (Nat × Bool)) (w : World) :
    (execOp a.eval ⟨dst, .call ⟨.value x, xs.toArray, ats⟩, ty, pos, after, guard⟩).run P w = .ok (.enter f (vs ++ caps).toArray) w := by
  obtain ⟨fn, c, h1, h2, h3⟩ := he.ex
  simp only [execOp, resolve, hx, Deferred.ofValue, Sem.run_bind, Sem.run_pure, Result.andThen_ok, invoke, callFunc, run_program, h1]
  simp [h2, h3, ← hv]
/-- a call of a function value -/
theorem OP.callV {f : FuncId} {x : Operand} {xs : List Operand} {ats : Array TypeId} {vs caps : List Value} {pre F : List Assn} {p : Value → List Assn → Prop} (ho : o.op = .call ⟨.value x, xs.toArray, ats⟩) (hx : rd none env x = some (none, .func (.func f) #[] caps.toArray)) (hv : rdAll env xs = some vs)
    (ht : Triple G f (vs ++ caps) pre p) (hi : Imp L (pre ++ F)) (hd : o.dst = some d) (hN : Nat.blt d N = true) (h : ∀ v M, p v M → post ((d, .val v) :: env) (M ++ F)) : OP G N o env L post := .mk fun a w ha hs => by
  obtain ⟨dst, op, type, pos, after, guard⟩ := o
  simp only at ho hd
  subst ho hd
  unfold Oper.wp
  rw [run_callV ht.enters (rd_plain hx ha) (rdAll_ok ha hv)]
  simp only [Oper.upon]
  refine (ht.calls F w (hi.sat hs)).mono ?_
  rintro e w' ⟨v, M, rfl, hp, s⟩
  exact ⟨_, _, ha.put hN v, s, h v M hp⟩
theorem OP.callVRO {f : FuncId} {x : Operand} {xs : List Operand} {ats : Array TypeId} {vs caps : List Value} {R : Assn} {v : Value} (ho : o.op = .call ⟨.value x, xs.toArray, ats⟩) (hx : rd none env x = some (none, .func (.func f) #[] caps.toArray)) (hv : rdAll env xs = some vs)
    (ht : RO G f (vs ++ caps) R v) (he : Ent L R) (hd : o.dst = some d) (hN : Nat.blt d N = true) (h : post ((d, .val v) :: env) L) : OP G N o env L post :=
  .callV (F := []) ho hx hv (ht.triple he) (by rw [List.append_nil]; exact Imp.refl _) hd hN (fun v' M ⟨e1, e2⟩ => by rw [List.append_nil, e1, e2]; exact h)
end
/-- a slice's literal of one part that has several cells -/
theorem evLit1 {T : Tab} {env : Env} {e : Nat} {ti : TI} {y : Operand} {vs : List Value} (ht : T.find e = some ti) (hy : rd none env y = some (none, .agg vs.toArray)) (hl : vs.length = ti.size) (hz : ti.zero.length = ti.size) (h1 : Nat.ble ti.size 1000 = true) (h2 : Nat.ble 1 ti.size = true) : evSliceLit T env e 1 [(0, y)] = some vs := by
  unfold evSliceLit
  rw [ht]
  have hp : rdParts env [(0, y)] = some [(0, .agg vs.toArray)] := by simp only [rdParts, hy]
  rw [hp]
  simp only [Nat.one_mul, h1, h2]
  have hr : repL ti.zero 1 = ti.zero := by simp [repL]
  rw [hr]
  have hb : Nat.beq vs.length ti.size = true := by rw [hl]; exact Nat.beq_refl _
  have hs := setMany_all (old := ti.zero) (vs := vs) (by rw [hz, hl])
  show (match (match Nat.blt 0 1 with | true => some (0 * ti.size, ti.size) | false => none), cellsOf (.agg vs.toArray) with
    | some (off, size), some vs => (match Nat.beq vs.length size, setMany ti.zero off vs with
      | true, some c' => fillL _ c' []
      | _, _ => none)
    | _, _ => none) = some vs
  simp only [Nat.zero_mul, cellsOf, hb, hs, fillL, Nat.blt]
theorem retc2 {G : Ctx} {env : Env} {L : List Assn} {p : Value → List Assn → Prop} {t u ty b off : Nat} {ti : TI} {v : Value} {l : List Value} (h2 : Env.get env u = some (.val (.pointer (some ⟨b, off, none⟩)))) (h1 : Env.get env t = some (.val v)) (ht : G.T.find ty = some ti) (hg : ti.agg = true) (hl : l.length = ti.size) (hc : Ent L (cellsAt b off l)) (h : p (.tuple #[.agg l.toArray, v]) L) :
    retK G [.cell u ty, .tmp t] p .ret env L := ⟨[.agg l.toArray, v], ⟨b, off, _, [v], ti, rfl, h2, ht, .inr ⟨hg, l, rfl, hl, hc⟩, v, [], rfl, h1, rfl⟩, h⟩
/-- a body that has a label, to which nothing jumps -/
def scopeK (k : Kont) : Kont
  | .goto _, _, _ => False
  | e, env, L => k e env L
theorem WC.scope {G : Ctx} {N : Nat} {env : Env} {L : List Assn} {k : Kont} {c : Code} (h : WC G N c env L (scopeK k)) : WC G N (.scope c) env L k := .mk fun a w ha hs =>
  wp_scope_straight (Code.wp_mono (fun e a w ⟨env, L, x, s, z⟩ => by
    cases e with
    | goto l => exact z
    | _ => exact ⟨env, L, x, s, z⟩) (h.go a w ha hs))
theorem scopeK.normal {k : Kont} {env : Env} {L : List Assn} (h : k .normal env L) : scopeK k .normal env L := h
theorem scopeK.exit {k : Kont} {env : Env} {L : List Assn} {i : Nat} (h : k (.exit i) env L) : scopeK k (.exit i) env L := h
theorem scopeK.ret {k : Kont} {env : Env} {L : List Assn} (h : k .ret env L) : scopeK k .ret env L := h
end Go.GL
/- Contracts of functions of the given program, and plain laws on what they compute: parts of the proofs of laws. -/

namespace Go.Proofs.YtanjfjiaheghcaaGreatDoor
open Go Go.GL

/-- an error: its faults' blocks, places and numbers, the outermost one first; the number that it comes from -/
abbrev Chain := List (Nat × ByteArray × Int)
def valOf : Chain → Int → Value
  | [], c => .iface 99 (.int .i64 c)
  | x :: _, _ => .iface 169 (.pointer (some ⟨x.1, 0, none⟩))
def chainR : Chain → Int → Assn
  | [], _ => fun _ => True
  | x :: r, c => fun h => cellsAt x.1 0 [.string x.2.1, .int .i64 x.2.2, valOf r c] h ∧ chainR r c h
theorem up_chainR : ∀ (ch : Chain) (c : Int), Up (chainR ch c)
  | [], _ => fun _ _ _ h => h
  | _ :: r, c => up_and (up_cellsAt _ _ _) (up_chainR r c)
/-- what an error is: none; or faults and a number -/
abbrev Er := Option (List (ByteArray × Int) × Int)
def IsEr (e : Er) (v : Value) (E : List Assn) : Prop := match e with
  | none => v = .nilIface ∧ E = []
  | some (l, c) => ∃ ch : Chain, ch.map Prod.snd = l ∧ v = valOf ch c ∧ E = [chainR ch c]
def wrapE (op : ByteArray) (at_ : Int) : Er → Er
  | none => none
  | some (l, c) => some ((op, at_) :: l, c)
theorem Imp.chain {ch : Chain} {c : Int} {b : Nat} {op : ByteArray} {at_ : Int} {L : List Assn} : Imp (blk b [.string op, .int .i64 at_, valOf ch c] 171 :: chainR ch c :: L) (chainR ((b, op, at_) :: ch) c :: L) := by
  rintro h ⟨h1, h2, d, e, ⟨fr, hb, hf⟩, h3, h4, d', e', hc, rest⟩
  subst e'
  have d13 : Hp.disj h1 h3 := Hp.disj_mono d (Hp.le_refl _) (Hp.le_join_left _ _)
  have d14 : Hp.disj h1 h4 := Hp.disj_mono d (Hp.le_refl _) (Hp.le_join_right d')
  refine ⟨Hp.join h1 h3, h4, Hp.disj_join d14 d', by rw [e, Hp.join_assoc], ⟨?_, up_chainR ch c _ _ (Hp.le_join_right d13) hc⟩, rest⟩
  exact up_cellsAt _ _ _ _ _ (Hp.le_join_left _ _) ⟨_, _, fr, hb, fun i v hi => by simpa using hi⟩
set_option maxRecDepth 10000 in
theorem wrapC_ok (op : ByteArray) (at_ : Int) (ch : Chain) (c : Int) (h : ¬ (ch = [] ∧ c = 0)) : Triple G 86 [.string op, .int .i64 at_, valOf ch c] [chainR ch c] (IsEr (some ((op, at_) :: ch.map Prod.snd, c))) := by
  refine Triple.enter Tryz.func86 rfl (by decide) rfl Tryz.ntmps86 rfl (fun F => ?_)
  cases ch with
  | nil =>
    have hc : ¬ c = 0 := fun e => h ⟨rfl, e⟩
    repeat (first | refine GD ?_ | refine NW fun _ => ?_)
    exact ret1 rfl ⟨_, ⟨(_, op, at_) :: [], rfl, rfl, rfl⟩, Imp.chain (ch := [])⟩
  | cons x r =>
    repeat (first | refine GD ?_ | refine NW fun _ => ?_)
    exact ret1 rfl ⟨_, ⟨(_, op, at_) :: x :: r, rfl, rfl, rfl⟩, Imp.chain (ch := x :: r)⟩
set_option maxRecDepth 10000 in
theorem wrap_nil (op : ByteArray) (at_ : Int) : RO G 86 [.string op, .int .i64 at_, .nilIface] (fun _ => True) .nilIface := by
  refine RO.enter Tryz.func86 rfl (by decide) rfl Tryz.ntmps86 rfl (fun A hu hA => ?_) (fun _ _ _ h => h)
  repeat (first | refine GD ?_ | refine NW fun _ => ?_)
  exact ret1 rfl ⟨rfl, MM⟩
theorem Imp.chain1 {c : Int} {b : Nat} {op : ByteArray} {at_ : Int} {L : List Assn} : Imp (blk b [.string op, .int .i64 at_, .iface 99 (.int .i64 c)] 171 :: L) (chainR [(b, op, at_)] c :: L) :=
  fun _ s => stars_head_mono (fun _ ⟨fr, hb, _⟩ => ⟨⟨_, _, fr, hb, fun i v hi => by
    have hi' : ([.string op, .int .i64 at_, .iface 99 (.int .i64 c)] : List Value)[i]? = some v := hi
    simpa using hi'⟩, trivial⟩) s
theorem Fault.isEr {op : ByteArray} {at_ c : Int} {v : Value} {M : List Assn} (h : Fault op at_ c v M) : ∃ M', IsEr (some ([(op, at_)], c)) v M' ∧ Imp M M' := by
  obtain ⟨b, rfl, rfl⟩ := h
  exact ⟨_, ⟨[(b, op, at_)], rfl, rfl, rfl⟩, Imp.chain1⟩
end Go.Proofs.YtanjfjiaheghcaaGreatDoor
/- Contracts of functions of the given program, and plain laws on what they compute: parts of the proofs of laws. -/

namespace Go.Proofs.YtanjfjiaheghcaaGreatDoor
open Go Go.GL

/-! the disk -/
def secC (s : List UInt8) : List Value := s.map byteV
def looC (x : Nat × List UInt8) : List Value := .int .i64 x.1 :: x.2.map byteV
def dskL (p : Nat) (D : Dsk) (x : Option Addr × Nat × Option Addr × Nat) : List Assn :=
  [blk p [.slice x.1 D.S.length x.2.1, .slice x.2.2.1 D.W.length x.2.2.2] 97,
   ownS x.1 D.S.length x.2.1 146 64 (D.S.flatMap secC),
   ownS x.2.2.1 D.W.length x.2.2.2 148 65 (D.W.flatMap looC)]
def dsk (p : Nat) (D : Dsk) : Assn := exA (dskL p D)
theorem up_dsk (p : Nat) (D : Dsk) : Up (dsk p D) := up_exA _
theorem repL_sec (n : Nat) : repL (List.replicate 64 (.int .u8 0)) n = (List.replicate n zero64).flatMap secC := by
  induction n with
  | zero => rfl
  | succ n ih => rw [repL, ih, List.replicate_succ (a := zero64), List.flatMap_cons]; rfl
theorem secC_len {D : Dsk} (h : D.ok) : ∀ s ∈ D.S, (secC s).length = 64 := fun s hs => by unfold secC; rw [List.length_map, h.s64 s hs]
theorem looC_len {D : Dsk} (h : D.ok) : ∀ x ∈ D.W, (looC x).length = 65 := fun x hx => by unfold looC; rw [List.length_cons, List.length_map, (h.w64 x hx).2]
set_option maxRecDepth 10000 in
theorem dnew_rt (n : Int) : RT G 6 [.int .i64 n] (fun _ => True) (fun v E => ∃ p, v = .pointer (some ⟨p, 0, none⟩) ∧ E = [dsk p (Dsk.new n)]) := by
  refine RT.enter Tryz.func6 rfl (by decide) rfl Tryz.ntmps6 rfl (fun A hu hA => ?_)
  repeat (first | refine GO ?_ | refine NW fun _ => ?_)
  have e : (if 0 < (if 1024 < n then 1024 else n) then (if 1024 < n then 1024 else n) else 0) = max 0 (min n 1024) := by split <;> split <;> omega
  rw [e]
  have hb : 0 ≤ max 0 (min n 1024) ∧ max 0 (min n 1024) ≤ 1024 := by omega
  have hd : Dsk.new n = ⟨List.replicate (max 0 (min n 1024)).toNat zero64, []⟩ := rfl
  rw [hd]
  generalize max 0 (min n 1024) = m at *
  refine WL.step rfl (OP.makeS (z := List.replicate 64 (.int .u8 0)) rfl rfl rfl rfl rfl rfl rfl rfl hb.1 (by omega) (by omega) rfl rfl (fun b => ?_))
  rw [repL_sec m.toNat]
  repeat (first | refine GO ?_ | refine NW fun _ => ?_)
  rename_i p
  refine ret1 rfl ⟨_, ⟨p, rfl, rfl⟩, (Imp.nilS 148 65).trans <| Imp.foldP (some ⟨b, 0, none⟩, m.toNat, none, 0) (by dsimp only [dskL]; rw [List.length_replicate]; exact (by repeat (first | exact Picks.nil _ | apply Picks.cons | exact Pick.here _ _ | apply Pick.there))) (Imp.refl _)⟩
theorem dlen_ro (p : Nat) (D : Dsk) : RO G 39 [.pointer (some ⟨p, 0, none⟩)] (dsk p D) (.int .i64 D.S.length) := by
  refine RO.enterEx Tryz.func39 rfl (by decide) rfl Tryz.ntmps39 rfl (fun x A hu hA => ?_)
  have hE : ∀ {L}, A ∈ L → Ent L (cellsAt p 0 [.slice x.1 D.S.length x.2.1, .slice x.2.2.1 D.W.length x.2.2.2]) := fun m => Ent.of hu hA m (Ent.whole (List.Mem.head _))
  repeat (first | refine GD ?_ | refine NW fun _ => ?_)
  refine WL.step rfl (OP.load1 (v := .slice x.1 D.S.length x.2.1) rfl rfl rfl rfl (Ent.one (i := 0) (hE MM) rfl) rfl rfl ?_)
  repeat (first | refine GD ?_ | refine NW fun _ => ?_)
  exact ret1 rfl ⟨rfl, MM⟩
def diskT : ByteArray := ⟨#[100, 105, 115, 107]⟩
set_option maxRecDepth 10000 in
theorem dthere_rt (p : Nat) (D : Dsk) (i : Int) : RT G 85 [.pointer (some ⟨p, 0, none⟩), .int .i64 i] (dsk p D) (IsEr (if 0 ≤ i ∧ i < D.S.length then none else some ([(diskT, i)], 5))) := by
  refine RT.enter Tryz.func85 rfl (by decide) rfl Tryz.ntmps85 rfl (fun A hu hA => ?_)
  have hE : ∀ {L}, A ∈ L → Ent L (dsk p D) := fun m => Ent.mem m hu hA
  by_cases h0 : i < 0
  · rw [if_neg (by omega)]
    repeat (first | refine GD ?_ | refine NW fun _ => ?_)
    refine WL.step rfl (OP.call (pre := []) rfl rfl (wrap_ok diskT i 5 (by decide)) PS rfl rfl ?_)
    intro v M hF
    obtain ⟨M', h1, h2⟩ := hF.isEr
    repeat (first | refine GD ?_ | refine NW fun _ => ?_)
    exact ret1 rfl ⟨M', h1, Imp.app h2 _⟩
  repeat (first | refine GD ?_ | refine NW fun _ => ?_)
  refine WL.guardT rfl rfl rfl rfl (OP.callRO rfl rfl (dlen_ro p D) (hE MM) rfl rfl ?_)
  by_cases h1 : i < D.S.length
  · rw [if_pos (by omega)]
    repeat (first | refine GD ?_ | refine NW fun _ => ?_)
    exact ret1 rfl ⟨[], ⟨rfl, rfl⟩, Imp.refl _⟩
  · rw [if_neg (by omega)]
    repeat (first | refine GD ?_ | refine NW fun _ => ?_)
    refine WL.step rfl (OP.call (pre := []) rfl rfl (wrap_ok diskT i 5 (by decide)) PS rfl rfl ?_)
    intro v M hF
    obtain ⟨M', h1, h2⟩ := hF.isEr
    repeat (first | refine GD ?_ | refine NW fun _ => ?_)
    exact ret1 rfl ⟨M', h1, Imp.app h2 _⟩
/-- Write: the answer, the memory -/
def WrPost (p : Nat) (D : Dsk) (i : Int) (l : List UInt8) (v : Value) (M : List Assn) : Prop :=
  if (0 ≤ i ∧ i < D.S.length) ∧ l.length = 64 then v = .nilIface ∧ M = [dsk p (D.put i.toNat l)]
  else ∃ E, IsEr (some ([(diskT, i)], if 0 ≤ i ∧ i < D.S.length then 1 else 5)) v E ∧ M = E ++ [dsk p D]
set_option maxHeartbeats 1000000 in
set_option maxRecDepth 10000 in
theorem dwrite_ok (p : Nat) (D : Dsk) (i : Int) (l : List UInt8) (a : Option Addr) (cap : Nat) (hw : D.W.length < 1000000) (hl : l.length < 1000000) :
    Triple G 61 [.pointer (some ⟨p, 0, none⟩), .int .i64 i, .slice a l.length cap] [dsk p D, ownS a l.length cap 5 1 (l.map byteV)] (WrPost p D i l) := by
  refine Triple.enter Tryz.func61 rfl (by decide) rfl Tryz.ntmps61 rfl (fun F => ?_)
  repeat (first | refine GO ?_ | refine NW fun _ => ?_)
  refine WL.step rfl (OP.callRT rfl rfl (dthere_rt p D i) (Ent.at (up_dsk p D) MM) rfl rfl ?_)
  by_cases hi : 0 ≤ i ∧ i < D.S.length
  rotate_left
  · rw [if_neg hi]
    rintro _ _ ⟨ch, h1, rfl, rfl⟩
    cases ch with
    | nil => cases h1
    | cons x r =>
      dsimp only [valOf]
      repeat (first | refine GD ?_ | refine NW fun _ => ?_)
      refine ret1 rfl ⟨[chainR (x :: r) 5, dsk p D], ?_, II⟩
      unfold WrPost
      rw [if_neg (fun h => hi h.1), if_neg hi]
      exact ⟨_, ⟨x :: r, h1, rfl, rfl⟩, rfl⟩
  rw [if_pos hi]
  rintro _ _ ⟨rfl, rfl⟩
  repeat (first | refine GO ?_ | refine NW fun _ => ?_)
  rename_i x
  have hcells : ∃ w, w.length = min l.length 64 ∧ ((l.map byteV).take (min l.length 64 * 1)) = w := ⟨_, by simp, rfl⟩
  obtain ⟨w, hwl, hw1⟩ := hcells
  have hone : allOne w = true := by rw [← hw1, ← List.map_take]; exact allOne_bytes _
  refine WL.imp (M := [blk x (.int .i64 i :: List.replicate 64 (.int .u8 0)) 148, dsk p D, ownS a l.length cap 5 1 (l.map byteV), F]) (Imp.refl _) ?_
  refine WL.step rfl (OP.copyB (M := [blk x (.int .i64 i :: (w ++ List.replicate (64 - w.length) (.int .u8 0))) 148, dsk p D, ownS a l.length cap 5 1 (l.map byteV), F]) rfl rfl rfl rfl rfl rfl rfl (Ent.own MM) hw1 hone (UpdM.here ?_) rfl rfl ?_)
  · have h := setMany_mid w [.int .i64 i] (List.replicate w.length (.int .u8 0)) (List.replicate (64 - w.length) (.int .u8 0)) (by simp)
    rw [List.append_assoc, List.replicate_append_replicate, show w.length + (64 - w.length) = 64 by omega] at h
    simpa using h
  by_cases hm : 64 < l.length
  · rw [show min l.length 64 = 64 by omega]
    have h64 : ¬ l.length = 64 := by omega
    repeat (first | refine GD ?_ | refine NW fun _ => ?_)
    refine WL.step rfl (OP.call (pre := []) rfl rfl (wrap_ok diskT i 1 (by decide)) PS rfl rfl ?_)
    intro v M hF
    obtain ⟨M', h1, h2⟩ := hF.isEr
    repeat (first | refine GD ?_ | refine NW fun _ => ?_)
    refine ret1 rfl ⟨M' ++ [dsk p D], ?_, ?_⟩
    · unfold WrPost
      rw [if_neg (fun h => h64 h.2), if_pos hi]
      exact ⟨M', h1, rfl⟩
    · rw [List.append_assoc]
      exact (Imp.app h2 _).trans (Imp.appL II _)
  rw [show min l.length 64 = l.length by omega]
  by_cases h64 : l.length = 64
  rotate_left
  · repeat (first | refine GD ?_ | refine NW fun _ => ?_)
    refine WL.step rfl (OP.call (pre := []) rfl rfl (wrap_ok diskT i 1 (by decide)) PS rfl rfl ?_)
    intro v M hF
    obtain ⟨M', h1, h2⟩ := hF.isEr
    repeat (first | refine GD ?_ | refine NW fun _ => ?_)
    refine ret1 rfl ⟨M' ++ [dsk p D], ?_, ?_⟩
    · unfold WrPost
      rw [if_neg (fun h => h64 h.2), if_pos hi]
      exact ⟨M', h1, rfl⟩
    · rw [List.append_assoc]
      exact (Imp.app h2 _).trans (Imp.appL II _)
  have hwb : w = l.map byteV := by rw [← hw1, List.take_of_length_le]; simp; omega
  subst hwb
  rw [show List.replicate (64 - (l.map byteV).length) (Value.int .u8 0) = [] by rw [List.length_map, h64]; rfl, List.append_nil]
  have hii : (i.toNat : Int) = i := by omega
  have hlo : Value.int .i64 i :: l.map byteV = looC (i.toNat, l) := by unfold looC; rw [hii]
  rw [hlo]
  have hlen : (looC (i.toNat, l)).length = 65 := by rw [← hlo]; simp [h64]
  repeat (first | refine GD ?_ | refine NW fun _ => ?_)
  refine WC.open P1 (fun y => ?_)
  refine WC.imp (M := dskL p D y ++ [blk x (looC (i.toNat, l)) 148, F]) II ?_
  unfold dskL
  dsimp only [List.cons_append, List.nil_append]
  refine RD 7 11 (_) ?_
  refine WP 0 ?_
  refine WP 1 ?_
  refine WP 2 ?_
  refine WP 3 ?_
  refine VV 4 ?_
  refine VL 5 (.agg (looC (i.toNat, l)).toArray) rfl rfl rfl rfl (.inr ⟨rfl, looC (i.toNat, l), rfl, hlen, Ent.whole MM⟩) ?_
  refine WH.only 6 rfl rfl (by kernel_rfl) rfl (OP.sliceLit rfl rfl rfl rfl rfl (evLit1 rfl rfl hlen rfl rfl rfl) rfl rfl (fun b2 => ⟨fun _ => II, ?_⟩))
  refine WH.only 7 rfl rfl (by kernel_rfl) rfl (OP.append rfl rfl rfl rfl rfl rfl rfl rfl rfl P1 (Ent.own MM) (by rw [← hlo]; exact allOne_bytes l) (by omega) (by omega) rfl rfl (fun a' cap' => ⟨(fun h => nomatch h), ?_⟩))
  refine WP 8 ?_
  refine WP 9 ?_
  refine WH.only 10 rfl rfl (by kernel_rfl) rfl (OP.store rfl rfl rfl rfl rfl rfl rfl UP rfl ⟨(fun h => nomatch h), ?_⟩)
  refine DN ?_
  repeat (first | refine GD ?_ | refine NW fun _ => ?_)
  refine ret1 rfl ⟨[dsk p (D.put i.toNat l)], ?_, ?_⟩
  · unfold WrPost
    rw [if_pos ⟨hi, h64⟩]
    exact ⟨rfl, rfl⟩
  · refine Imp.foldP (N := [ownS (some ⟨b2, 0, none⟩) 1 1 148 65 (looC (i.toNat, l)), blk x (looC (i.toNat, l)) 148, F]) (y.1, y.2.1, a', cap') ?_ II
    unfold dskL Dsk.put
    dsimp only
    rw [List.length_append, List.flatMap_append, List.flatMap_cons, List.flatMap_nil, List.append_nil]
    exact (by repeat (first | exact Picks.nil _ | apply Picks.cons | exact Pick.here _ _ | apply Pick.there))
theorem Imp.blkR {b n : Nat} {c : List Value} {T : TypeId} {L : List Assn} (h : c.length = n) : Imp (blk b c T :: L) (readS (some ⟨b, 0, none⟩) n 1 c :: L) :=
  fun _ s => stars_head_mono (fun _ ⟨fr, hb, _⟩ => ⟨by omega, .inr ⟨b, 0, rfl, _, T, fr, hb, fun i v hi => by simpa using hi⟩⟩) s
theorem cut_all {L : List Assn} {b : Nat} {x : Value} {l : List Value} {T : TypeId} {n : Nat} (m : blk b (x :: l) T ∈ L) (h : l.length = n) : HasCut L b 1 n l := by
  have e : cutL (x :: l) 1 n = some l := cutL_all h
  induction L with
  | nil => cases m
  | cons A L ih => rcases List.mem_cons.1 m with h1 | h1
                   · subst h1; exact HasCut.here e
                   · exact HasCut.there (ih h1)
theorem Dsk.cur_def (D : Dsk) (i : Nat) : D.cur i = curF i (D.S.getD i []) D.W := rfl
/-- Read: the answer, what is new -/
def DReadPost (D : Dsk) (i : Int) (v : Value) (E : List Assn) : Prop :=
  if 0 ≤ i ∧ i < D.S.length then ∃ b, v = .tuple #[.slice (some ⟨b, 0, none⟩) 64 64, .nilIface] ∧ E = [readS (some ⟨b, 0, none⟩) 64 1 ((D.cur i.toNat).map byteV)]
  else ∃ e, IsEr (some ([(diskT, i)], 5)) e E ∧ v = .tuple #[.slice none 0 0, e]
theorem allOne_loo (x : Nat × List UInt8) : allOne (looC x) = true := allOne_bytes x.2
set_option maxHeartbeats 1000000 in
set_option maxRecDepth 10000 in
theorem dread_rt (p : Nat) (D : Dsk) (i : Int) (hD : D.ok) (hw : D.W.length < 1000000) : RT G 40 [.pointer (some ⟨p, 0, none⟩), .int .i64 i] (dsk p D) (DReadPost D i) := by
  refine RT.enterEx Tryz.func40 rfl (by decide) rfl Tryz.ntmps40 rfl (fun y A hu hA => ?_)
  have hE : ∀ {L}, A ∈ L → Ent L (dsk p D) := fun m => Ent.mem m hu fun k a => ⟨y, hA k a⟩
  have hF : ∀ {L}, A ∈ L → Ent L (cellsAt p 0 [.slice y.1 D.S.length y.2.1, .slice y.2.2.1 D.W.length y.2.2.2]) := fun m => Ent.of hu hA m (Ent.whole (List.Mem.head _))
  have hS : ∀ {L}, A ∈ L → Ent L (readS y.1 D.S.length 64 (D.S.flatMap secC)) := fun m => Ent.of hu hA m (Ent.own (List.Mem.tail _ (List.Mem.head _)))
  have hW : ∀ {L}, A ∈ L → Ent L (readS y.2.2.1 D.W.length 65 (D.W.flatMap looC)) := fun m => Ent.of hu hA m (Ent.own (List.Mem.tail _ (List.Mem.tail _ (List.Mem.head _))))
  repeat (first | refine GO ?_ | refine NW fun _ => ?_)
  refine WL.step rfl (OP.callRT rfl rfl (dthere_rt p D i) (hE MM) rfl rfl ?_)
  by_cases hi : 0 ≤ i ∧ i < D.S.length
  rotate_left
  · rw [if_neg hi]
    rintro _ _ ⟨ch, h1, rfl, rfl⟩
    cases ch with
    | nil => cases h1
    | cons x r =>
      dsimp only [valOf]
      repeat (first | refine GD ?_ | refine NW fun _ => ?_)
      refine ret2 rfl rfl ⟨[chainR (x :: r) 5], ?_, II⟩
      unfold DReadPost
      rw [if_neg hi]
      exact ⟨_, ⟨x :: r, h1, rfl, rfl⟩, rfl⟩
  rw [if_pos hi]
  rintro _ _ ⟨rfl, rfl⟩
  obtain ⟨k, rfl⟩ : ∃ k : Nat, i = k := ⟨i.toNat, by omega⟩
  have hk : k < D.S.length := by omega
  have hs64 := hD.s64 D.S[k] (List.getElem_mem hk)
  repeat (first | refine GD ?_ | refine NW fun _ => ?_)
  refine WL.step rfl (OP.load1 (v := .slice y.1 D.S.length y.2.1) rfl rfl rfl rfl (Ent.one (i := 0) (hF MM) rfl) rfl rfl ?_)
  refine WL.fact (Ent.some (hS MM) (by omega)) ?_
  rintro ⟨bs, off, hys⟩
  rw [hys]
  rw [hys] at hS
  repeat (first | refine GD ?_ | refine NW fun _ => ?_)
  refine WL.step rfl (OP.loadA (l := secC D.S[k]) rfl rfl rfl rfl ((Ent.elMA (secC_len hD) (hS MM) hk)) (secC_len hD _ (List.getElem_mem hk)) rfl rfl ?_)
  repeat (first | refine GD ?_ | refine NW fun _ => ?_)
  rename_i x
  refine WL.step rfl (OP.store (vs := secC D.S[k]) (M := [blk x (secC D.S[k]) 146, A]) rfl rfl rfl rfl rfl (allOne_bytes _) (secC_len hD _ (List.getElem_mem hk)) (UpdM.here (setMany_all (by rw [secC_len hD _ (List.getElem_mem hk)]; rfl))) rfl ?_)
  repeat (first | refine GO ?_ | refine NW fun _ => ?_)
  refine WL.step rfl (OP.load1 (v := .slice y.2.2.1 D.W.length y.2.2.2) rfl rfl rfl rfl (Ent.one (i := 1) (hF MM) rfl) rfl rfl ?_)
  repeat (first | refine GO ?_ | refine NW fun _ => ?_)
  have hcu : ∀ j, (secC (curF k D.S[k] (D.W.take j))).length = 64 := fun j => by
    unfold secC; rw [List.length_map]; exact curF_64 hs64 (fun x hx => (hD.w64 x (List.mem_of_mem_take hx)).2)
  refine WC.loop (σ := Nat) (fun j => j ≤ D.W.length)
    (fun j => [(0, .val (.pointer (some ⟨p, 0, none⟩))), (1, .val (.int .i64 k)), (7, .val (.pointer (some ⟨x, 0, none⟩))), (26, .val (.slice y.2.2.1 D.W.length y.2.2.2)), (27, .val (.int .i64 D.W.length)), (28, .val (.int .i64 j))])
    (fun j => [blk x (secC (curF k D.S[k] (D.W.take j))) 146, A]) (fun j => D.W.length - j) 0 (Nat.zero_le _) ⟨rfl, rfl, rfl, rfl, rfl, rfl, trivial⟩ (Imp.refl _) ?_
  rintro j hj
  by_cases hlt : j < D.W.length
  rotate_left
  · have hje : j = D.W.length := by omega
    subst hje
    have hcl := hcu D.W.length
    rw [List.take_length] at *
    have hcur : D.cur k = curF k D.S[k] D.W := by rw [Dsk.cur_def, List.getD_eq_getElem?_getD, List.getElem?_eq_getElem hk]; rfl
    repeat (first | refine GD ?_ | refine NW fun _ => ?_)
    refine ret2 rfl rfl ⟨[readS (some ⟨x, 0, none⟩) 64 1 ((D.cur k).map byteV)], ?_, ?_⟩
    · unfold DReadPost
      rw [if_pos hi]
      exact ⟨x, rfl, rfl⟩
    · rw [hcur]
      exact Imp.blkR hcl
  have hsn : curF k D.S[k] (D.W.take (j + 1)) = if (D.W[j]).1 = k then (D.W[j]).2 else curF k D.S[k] (D.W.take j) := by
    rw [← List.take_append_getElem hlt, curF_snoc]
  have hxl := looC_len hD _ (List.getElem_mem hlt)
  obtain ⟨hx1, hx2⟩ := hD.w64 _ (List.getElem_mem hlt)
  refine WC.fact (Ent.some (hW MM) (by omega)) ?_
  rintro ⟨bw, offw, hyw⟩
  rw [hyw]
  rw [hyw] at hW
  repeat (first | refine GD ?_ | refine NW fun _ => ?_)
  refine WL.step rfl (OP.loadA (l := looC D.W[j]) rfl rfl rfl rfl ((Ent.elMA (looC_len hD) (hW MM) hlt)) hxl rfl rfl ?_)
  generalize D.W[j] = e at *
  obtain ⟨ei, eb⟩ := e
  dsimp only at hsn hx1 hx2
  repeat (first | refine GD ?_ | refine NW fun _ => ?_)
  rename_i x9
  refine WL.step rfl (OP.store (vs := looC (ei, eb)) (M := [blk x9 (looC (ei, eb)) 148, blk x (secC (curF k D.S[k] (D.W.take j))) 146, A]) rfl rfl rfl rfl rfl (allOne_loo _) hxl (UpdM.here (setMany_all (by rw [hxl]; rfl))) rfl ?_)
  by_cases hek : ei = k
  · rw [if_pos hek] at hsn
    subst hek
    repeat (first | refine GD ?_ | refine NW fun _ => ?_)
    refine WL.step rfl (OP.loadA (l := secC eb) rfl rfl rfl rfl (cut_all (n := 64) (x := .int .i64 ei) (T := 148) MM (by simp [secC, hx2])).ent.1 (by simp [secC, hx2]) rfl rfl ?_)
    refine WL.step rfl (OP.store (vs := secC eb) (M := [blk x9 (looC (ei, eb)) 148, blk x (secC eb) 146, A]) rfl rfl rfl rfl rfl (allOne_bytes _) (by simp [secC, hx2]) (UpdM.there (UpdM.here (setMany_all (by rw [hcu]; simp [secC, hx2])))) rfl ?_)
    repeat (first | refine GD ?_ | refine NW fun _ => ?_)
    exact ⟨j + 1, by omega, by omega, ⟨rfl, rfl, rfl, rfl, rfl, rfl, trivial⟩, by rw [hsn]; exact II⟩
  · rw [if_neg hek] at hsn
    have hne : ¬ (ei : Int) = k := by omega
    repeat (first | refine GD ?_ | refine NW fun _ => ?_)
    exact ⟨j + 1, by omega, by omega, ⟨rfl, rfl, rfl, rfl, rfl, rfl, trivial⟩, by rw [hsn]; exact II⟩
theorem settleF_succ (kept : Nat → Bool) (W : List (Nat × List UInt8)) (S : List (List UInt8)) (j : Nat) (h : j < W.length) : settleF kept 0 (W.take (j + 1)) S = if kept j = true then (settleF kept 0 (W.take j) S).set (W[j]).1 (W[j]).2 else settleF kept 0 (W.take j) S := by
  rw [← List.take_append_getElem h, settleF_snoc, List.length_take, Nat.zero_add, Nat.min_eq_left (by omega)]
set_option maxHeartbeats 2000000 in
set_option maxRecDepth 10000 in
theorem dsettle_ok (p : Nat) (D : Dsk) (hD : D.ok) (hw : D.W.length < 1000000) (f : FuncId) (caps : List Value) (K : Assn) (hK : Up K) (kept : Nat → Bool) (hf : ∀ j : Nat, j < D.W.length → RO G f ([.int .i64 j] ++ caps) K (.bool (kept j))) :
    Triple G 103 [.pointer (some ⟨p, 0, none⟩), .func (.func f) #[] caps.toArray] [dsk p D, K] (fun v M => v = .tuple #[] ∧ M = [dsk p (D.settle kept), K]) := by
  refine Triple.enter Tryz.func103 rfl (by decide) rfl Tryz.ntmps103 rfl (fun F => ?_)
  refine WC.open P1 (fun y => ?_)
  unfold dskL
  dsimp only [List.cons_append, List.nil_append]
  repeat (first | refine GO ?_ | refine NW fun _ => ?_)
  refine WC.loop (σ := Nat) (fun j => j ≤ D.W.length)
    (fun j => [(0, .val (.pointer (some ⟨p, 0, none⟩))), (1, .val (.func (.func f) #[] caps.toArray)), (11, .val (.slice y.2.2.1 D.W.length y.2.2.2)), (12, .val (.int .i64 D.W.length)), (13, .val (.int .i64 j))])
    (fun j => [blk p [.slice y.1 D.S.length y.2.1, .slice y.2.2.1 D.W.length y.2.2.2] 97,
      ownS y.1 D.S.length y.2.1 146 64 ((settleF kept 0 (D.W.take j) D.S).flatMap secC), ownS y.2.2.1 D.W.length y.2.2.2 148 65 (D.W.flatMap looC), K, F]) (fun j => D.W.length - j) 0 (Nat.zero_le _) ⟨rfl, rfl, rfl, rfl, rfl, trivial⟩ II ?_
  rintro j hj
  by_cases hlt : j < D.W.length
  rotate_left
  · have hje : j = D.W.length := by omega
    subst hje
    rw [List.take_length]
    repeat (first | refine GD ?_ | refine NW fun _ => ?_)
    refine ret0n ⟨_, ⟨rfl, rfl⟩, (Imp.nilS 148 65).trans (Imp.foldP (N := [ownS y.2.2.1 D.W.length y.2.2.2 148 65 (D.W.flatMap looC), K, F]) (y.1, y.2.1, none, 0) ?_ II)⟩
    unfold dskL Dsk.settle
    dsimp only
    rw [settleF_length]
    exact (by repeat (first | exact Picks.nil _ | apply Picks.cons | exact Pick.here _ _ | apply Pick.there))
  have hsn := settleF_succ kept D.W D.S j hlt
  have hxl := looC_len hD _ (List.getElem_mem hlt)
  obtain ⟨hx1, hx2⟩ := hD.w64 _ (List.getElem_mem hlt)
  have hRl := settleF_length kept (D.W.take j) 0 D.S
  have hR64 := settleF_64 kept (D.W.take j) 0 D.S hD.s64 (fun x hx => (hD.w64 x (List.mem_of_mem_take hx)).2)
  generalize settleF kept 0 (D.W.take j) D.S = R at *
  have hRc : ∀ s ∈ R, (secC s).length = 64 := fun s hs => by unfold secC; rw [List.length_map, hR64 s hs]
  refine WC.fact (Ent.some (Ent.own (a := y.2.2.1) (n := D.W.length) (cap := y.2.2.2) (T := 148) (size := 65) (cs := D.W.flatMap looC) MM) (by omega)) ?_
  rintro ⟨bw, offw, hyw⟩
  refine WC.fact (Ent.some (Ent.own (a := y.1) (n := D.S.length) (cap := y.2.1) (T := 146) (size := 64) (cs := R.flatMap secC) MM) (by omega)) ?_
  rintro ⟨bs, offs, hys⟩
  rw [hyw, hys]
  repeat (first | refine GD ?_ | refine NW fun _ => ?_)
  refine WL.step rfl (OP.loadA (l := looC D.W[j]) rfl rfl rfl rfl ((Ent.elMA (looC_len hD) (Ent.own MM) hlt)) hxl rfl rfl ?_)
  generalize D.W[j] = e at *
  obtain ⟨ei, eb⟩ := e
  dsimp only at hsn hx1 hx2
  repeat (first | refine GD ?_ | refine NW fun _ => ?_)
  rename_i x9
  refine WL.step rfl (OP.store (vs := looC (ei, eb)) (M := [blk x9 (looC (ei, eb)) 148, blk p [.slice (some ⟨bs, offs, none⟩) D.S.length y.2.1, .slice (some ⟨bw, offw, none⟩) D.W.length y.2.2.2] 97,
      ownS (some ⟨bs, offs, none⟩) D.S.length y.2.1 146 64 (R.flatMap secC), ownS (some ⟨bw, offw, none⟩) D.W.length y.2.2.2 148 65 (D.W.flatMap looC), K, F]) rfl rfl rfl rfl rfl (allOne_loo _) hxl (UpdM.here (setMany_all (by rw [hxl]; rfl))) rfl ?_)
  repeat (first | refine GD ?_ | refine NW fun _ => ?_)
  refine WL.step rfl (OP.callVRO (vs := [.int .i64 j]) rfl rfl rfl (hf j hlt) (Ent.at hK MM) rfl rfl ?_)
  cases hkj : kept j
  · rw [hkj, if_neg (by simp)] at hsn
    repeat (first | refine GD ?_ | refine NW fun _ => ?_)
    exact ⟨j + 1, by omega, by omega, ⟨rfl, rfl, rfl, rfl, rfl, trivial⟩, by rw [hsn]; exact II⟩
  · rw [hkj, if_pos rfl] at hsn
    repeat (first | refine GD ?_ | refine NW fun _ => ?_)
    have hel : (secC eb).length = 64 := by simp [secC, hx2]
    refine RD 9 10 (_) ?_
    refine WP 0 ?_
    refine WP 1 ?_
    refine WP 2 ?_
    refine VV 3 ?_
    refine WP 4 ?_
    refine VV 5 ?_
    refine WP 6 ?_
    refine VL 7 (.agg (secC eb).toArray) rfl rfl rfl rfl (.inr ⟨rfl, secC eb, rfl, hel, (cut_all (n := 64) (x := .int .i64 ei) (T := 148) MM hel).ent.1⟩) ?_
    refine WP 8 ?_
    refine WH.only 9 rfl rfl (by kernel_rfl) rfl (OP.storeO (vs := secC eb) (i := ei * 64) rfl rfl rfl rfl rfl (allOne_bytes _) hel P1 (flatM_set hRc (k := ei) (by omega) hel) rfl ⟨(fun h => nomatch h), ?_⟩)
    refine DN ?_
    repeat (first | refine GD ?_ | refine NW fun _ => ?_)
    exact ⟨j + 1, by omega, by omega, ⟨rfl, rfl, rfl, rfl, rfl, trivial⟩, by rw [hsn]; exact II⟩
theorem Imp.emp {L : List Assn} : Imp L ((fun _ => True) :: L) := fun h s => ⟨Hp.empty, h, fun _ => .inl rfl, by funext b; simp [Hp.join, Hp.empty], trivial, s⟩
theorem dflush1_ro (j : Int) : RO G 104 [.int .i64 j] (fun _ => True) (.bool true) := by
  refine RO.enter Tryz.func104 rfl (by decide) rfl Tryz.ntmps104 rfl (fun A hu hA => ?_) (fun _ _ _ h => h)
  repeat (first | refine GD ?_ | refine NW fun _ => ?_)
  exact ret1 rfl ⟨rfl, MM⟩
theorem dflush_ok (p : Nat) (D : Dsk) (hD : D.ok) (hw : D.W.length < 1000000) : Triple G 63 [.pointer (some ⟨p, 0, none⟩)] [dsk p D] (fun v M => v = .tuple #[] ∧ M = [dsk p D.flush]) := by
  refine Triple.enter Tryz.func63 rfl (by decide) rfl Tryz.ntmps63 rfl (fun F => ?_)
  repeat (first | refine GO ?_ | refine NW fun _ => ?_)
  refine WL.step rfl (OP.call (pre := [dsk p D, fun _ => True]) rfl rfl (dsettle_ok p D hD hw 104 [] (fun _ => True) (fun _ _ _ h => h) (fun _ => true) (fun j _ => dflush1_ro j)) (Imp.emp.trans PS) rfl rfl ?_)
  rintro _ _ ⟨rfl, rfl⟩
  repeat (first | refine GO ?_ | refine NW fun _ => ?_)
  exact ret0n ⟨_, ⟨rfl, rfl⟩, II⟩
end Go.Proofs.YtanjfjiaheghcaaGreatDoor
/- Contracts of functions of the given program, and plain laws on what they compute: parts of the proofs of laws. -/
namespace Go.Proofs.YtanjfjiaheghcaaGreatDoor
open Go Go.GL

/-- a journal's head: its turn, the first record's number, the generation, the low one -/
structure Hd where
  turn : Int
  first : Int
  gen : Int
  low : Int
def headB (h : Hd) : List UInt8 := numB (clampN h.turn) ++ numB (clampN h.first) ++ numB (clampN h.gen) ++ numB (clampN h.low)
def headS (h : Hd) : List UInt8 := sectorM (headB h)
theorem headB_len (h : Hd) : (headB h).length ≤ 60 := by
  have h1 := numB_nine h.turn
  have h2 := numB_nine h.first
  have h3 := numB_nine h.gen
  have h4 := numB_nine h.low
  unfold headB
  simp only [List.length_append]
  omega
theorem headS_len (h : Hd) : (headS h).length = 64 := sectorM_len (headB_len h)
/-- four numbers that are read -/
def hd4 (s : PR) : Hd × PR :=
  (⟨(numR s).1, (numR (numR s).2).1, (numR (numR (numR s).2).2).1, (numR (numR (numR (numR s).2).2).2).1⟩, (numR (numR (numR (numR s).2).2).2).2)
def HdOk (b : List UInt8) (slot : Int) (h : Hd) (e : Int) : Prop := e = 0 ∧ h.low ≤ h.gen ∧ 0 < h.first ∧ h.turn % 2 = slot ∧ headS h = b
instance (b : List UInt8) (slot : Int) (h : Hd) (e : Int) : Decidable (HdOk b slot h e) := by unfold HdOk; infer_instance
/-- the head that a sector tells -/
def headOf (b : List UInt8) (slot : Int) : Option Hd :=
  if OpenOk b ∧ HdOk b slot (hd4 (b.take (b.length - 4), 0)).1 (hd4 (b.take (b.length - 4), 0)).2.2 then some (hd4 (b.take (b.length - 4), 0)).1 else none
def hd0 : Hd := ⟨0, 1, 0, 0⟩
/-- the head that counts; none: the heads are spoilt -/
def newestM (a b : List UInt8) : Option Hd :=
  match headOf a 0, headOf b 1 with
  | some x, some y => if x.turn < y.turn then some y else some x
  | some x, none => some x
  | none, some y => some y
  | none, none => if a = zero64 ∧ b = zero64 then some hd0 else none
/-- a record that is held, and its generation -/
abbrev Held := Int × Rec
def posM (ring : Nat) (seq : Int) : Nat := 2 + (seq % ring).toNat
/-- is the record the next one? -/
def fits (b : List UInt8) (seq low gen : Int) : Option Held :=
  match decR b with
  | .ok (g, r) => if r.1 = seq ∧ low ≤ g ∧ g ≤ gen then some (g, r) else none
  | .error _ => none
def scanF (D : Dsk) (ring : Nat) (h : Hd) : Nat → List Held → Int → List Held
  | 0, l, _ => l
  | k + 1, l, low => match fits (D.cur (posM ring (h.first + l.length))) (h.first + l.length) low h.gen with
    | some x => scanF D ring h k (l ++ [x]) x.1
    | none => l
def scanM (D : Dsk) (ring : Nat) (h : Hd) : List Held := scanF D ring h ring [] h.low
/-- a journal: its ring, its head, what it holds -/
structure Jrn where
  ring : Nat
  hd : Hd
  held : List Held
def Jrn.next (J : Jrn) : Int := J.hd.first + J.held.length
def Hd.up (h : Hd) : Hd := { h with turn := h.turn + 1 }
/-- a head is saved -/
def saveM (D : Dsk) (h : Hd) : Dsk := (D.put (h.turn % 2).toNat (headS h)).flush
def openM (D : Dsk) (ring : Int) : Except Int (Jrn × Dsk) :=
  if ring < 1 ∨ 512 < ring ∨ (D.S.length : Int) < 2 + ring then .error 1
  else match newestM (D.cur 0) (D.cur 1) with
    | none => .error 4
    | some h => .ok (⟨ring.toNat, { h with gen := h.gen + 1, turn := h.turn + 1 }, scanM D ring.toNat h⟩, saveM D { h with gen := h.gen + 1, turn := h.turn + 1 })
def setSeq (r : Rec) (n : Int) : Rec := (n, r.2)
/-- Append: the error's numbers, outermost first; or the record is put behind -/
def appendM (J : Jrn) (D : Dsk) (r : Rec) : Except Int (Jrn × Dsk) :=
  if J.held.length = J.ring then .error 6
  else if RightR (setSeq r J.next) ∧ (0 ≤ J.hd.gen ∧ J.hd.gen ≤ widest) then
    .ok ({ J with held := J.held ++ [(J.hd.gen, setSeq r J.next)] }, D.put (posM J.ring J.next) (sectorM (bodyM J.hd.gen (setSeq r J.next))))
  else .error 1
def trimM (J : Jrn) (D : Dsk) (k : Int) : Except Int (Jrn × Dsk) :=
  if k < 0 ∨ (J.held.length : Int) < k then .error 1
  else if k = 0 then .ok (J, D)
  else .ok ({ J with hd := { J.hd with turn := J.hd.turn + 1, first := J.hd.first + k, low := (J.held.getD (k.toNat - 1) (0, rec0)).1 }, held := J.held.drop k.toNat },
    saveM D.flush { J.hd with turn := J.hd.turn + 1, first := J.hd.first + k, low := (J.held.getD (k.toNat - 1) (0, rec0)).1 })
end Go.Proofs.YtanjfjiaheghcaaGreatDoor
/- Contracts of functions of the given program, and plain laws on what they compute: parts of the proofs of laws. -/
namespace Go.Proofs.YtanjfjiaheghcaaGreatDoor
open Go Go.GL

theorem openOk_sector {l : List UInt8} (h : l.length ≤ 60) : OpenOk (sectorM l) ∧ (sectorM l).take ((sectorM l).length - 4) = padM l := by
  have h1 := sectorM_len h
  have h2 := padM_len h
  have e : (sectorM l).take ((sectorM l).length - 4) = padM l := by
    rw [h1]
    unfold sectorM
    exact List.take_left' h2
  have e2 : (sectorM l).drop ((sectorM l).length - 4) = tailM (padM l) := by
    rw [h1]
    unfold sectorM
    exact List.drop_left' h2
  exact ⟨⟨by omega, by rw [e, e2]⟩, e⟩
structure Hd.ok (h : Hd) : Prop where
  turn : 0 ≤ h.turn ∧ h.turn ≤ widest
  first : 1 ≤ h.first ∧ h.first ≤ widest
  low : 0 ≤ h.low ∧ h.low ≤ h.gen
  gen : h.gen ≤ widest
theorem hd4_pad {h : Hd} (k : h.ok) : hd4 (padM (headB h), 0) = (h, (List.replicate (60 - (headB h).length) 0, 0)) := by
  have e : padM (headB h) = numB (clampN h.turn) ++ (numB (clampN h.first) ++ (numB (clampN h.gen) ++ (numB (clampN h.low) ++ List.replicate (60 - (headB h).length) 0))) := by
    unfold padM
    generalize List.replicate (60 - (headB h).length) (0 : UInt8) = z
    unfold headB
    simp only [List.append_assoc]
  have h1 := k.turn
  have h2 := k.first
  have h3 := k.low
  have h4 := k.gen
  unfold hd4
  rw [e, numR_numB h1]
  dsimp only
  rw [numR_numB (by omega)]
  dsimp only
  rw [numR_numB (by omega)]
  dsimp only
  rw [numR_numB (by omega)]
theorem headOf_headS {h : Hd} (k : h.ok) (slot : Int) : headOf (headS h) slot = if h.turn % 2 = slot then some h else none := by
  obtain ⟨o1, o2⟩ := openOk_sector (headB_len h)
  have e : hd4 ((headS h).take ((headS h).length - 4), 0) = (h, (List.replicate (60 - (headB h).length) 0, 0)) := by
    unfold headS; rw [o2]; exact hd4_pad k
  unfold headOf
  rw [e]
  dsimp only
  have h1 := k.first
  have h2 := k.low
  by_cases hs : h.turn % 2 = slot
  · rw [if_pos hs, if_pos ⟨o1, rfl, h2.2, by omega, hs, rfl⟩]
  · rw [if_neg hs, if_neg (fun x => hs x.2.2.2.2.1)]
theorem readM_zero : (readM (List.replicate 60 0, 0)).1.2.2.1 = 0 := by decide
theorem decR_zero (x : Int × Rec) : decR zero64 ≠ .ok x := by
  intro h
  have hr := (decR_ok h).1
  unfold decR at h
  split at h
  · split at h
    · cases h
      have e : zero64.take 60 = List.replicate 60 0 := rfl
      rw [e] at hr
      obtain ⟨_, hk⟩ := hr
      have hz := readM_zero
      generalize (readM (List.replicate 60 0, 0)).1.2 = y at *
      omega
    · cases h
  · cases h
theorem hd4_zero : (hd4 (List.replicate 60 0, 0)).1.first = 0 := by decide
theorem headOf_zero (slot : Int) : headOf zero64 slot = none := by
  unfold headOf
  rw [if_neg]
  rintro ⟨_, _, _, h, _⟩
  have e : zero64.take (zero64.length - 4) = List.replicate 60 0 := rfl
  rw [e, hd4_zero] at h
  omega
theorem fits_some {b : List UInt8} {seq low gen : Int} {x : Held} (h : fits b seq low gen = some x) : decR b = .ok x ∧ x.2.1 = seq ∧ low ≤ x.1 ∧ x.1 ≤ gen := by
  unfold fits at h
  split at h
  · rename_i g r hd
    split at h
    · rename_i hc; cases h; exact ⟨hd, hc⟩
    · cases h
  · cases h
theorem fits_ok {b : List UInt8} {seq low gen : Int} {x : Held} (h : decR b = .ok x) (h1 : x.2.1 = seq) (h2 : low ≤ x.1) (h3 : x.1 ≤ gen) : fits b seq low gen = some x := by
  unfold fits
  rw [h]
  obtain ⟨g, r⟩ := x
  dsimp only at h1 h2 h3 ⊢
  rw [if_pos ⟨h1, h2, h3⟩]
theorem fits_none {b : List UInt8} {seq low gen : Int} (h : ∀ x, decR b = .ok x → x.2.1 = seq → low ≤ x.1 → x.1 ≤ gen → False) : fits b seq low gen = none := by
  cases hf : fits b seq low gen with
  | none => rfl
  | some x => obtain ⟨h1, h2, h3, h4⟩ := fits_some hf; exact (h x h1 h2 h3 h4).elim
/-- the generation that a record at a place must reach -/
def lowAt (low : Int) (held : List Held) (i : Nat) : Int := if i = 0 then low else (held.getD (i - 1) (0, rec0)).1
theorem lowAt_succ (low : Int) (held : List Held) {i : Nat} (h : i < held.length) : lowAt low held (i + 1) = held[i].1 := by
  unfold lowAt
  rw [if_neg (by omega), Nat.add_sub_cancel, List.getD_eq_getElem?_getD, List.getElem?_eq_getElem h]; rfl
/-- the scan finds just these -/
theorem scan_take {D : Dsk} {ring : Nat} {h : Hd} {held : List Held} {p : Nat} (hp : p ≤ ring) (hl : p ≤ held.length)
    (hit : ∀ i (hi : i < p), fits (D.cur (posM ring (h.first + i))) (h.first + i) (lowAt h.low held i) h.gen = some (held[i]'(by omega)))
    (stop : p < ring → fits (D.cur (posM ring (h.first + p))) (h.first + p) (lowAt h.low held p) h.gen = none) : scanM D ring h = held.take p := by
  have key : ∀ (k i : Nat), i ≤ p → k = ring - i → scanF D ring h k (held.take i) (lowAt h.low held i) = held.take p := by
    intro k
    induction k with
    | zero =>
      intro i hi hk
      have : i = p := by omega
      subst this; rfl
    | succ k ih =>
      intro i hi hk
      have hlen : (held.take i).length = i := by rw [List.length_take]; omega
      unfold scanF
      rw [hlen]
      by_cases hip : i < p
      · rw [hit i hip]
        dsimp only
        have := ih (i + 1) (by omega) (by omega)
        rw [lowAt_succ _ _ (by omega), List.take_succ_eq_append_getElem (by omega)] at this
        exact this
      · have : i = p := by omega
        subst this
        rw [stop (by omega)]
  exact key ring 0 (by omega) (by omega)
def secH (x : Held) : List UInt8 := sectorM (bodyM x.1 x.2)
/-- what holds of a journal and its disk: the first f records are fast -/
structure JInv (J : Jrn) (D : Dsk) (f : Nat) (B : Int) : Prop where
  dok : D.ok
  ring : 1 ≤ J.ring ∧ J.ring ≤ 512 ∧ 2 + J.ring ≤ D.S.length
  hdr : 0 ≤ J.hd.turn ∧ 1 ≤ J.hd.first ∧ 0 ≤ J.hd.low ∧ J.hd.low ≤ J.hd.gen
  bound : J.hd.turn + J.hd.gen + J.hd.first + J.held.length ≤ B
  len : J.held.length ≤ J.ring
  fle : f ≤ J.held.length
  seq : ∀ i (h : i < J.held.length), (J.held[i]).2.1 = J.hd.first + i
  right : ∀ x ∈ J.held, RightR x.2
  gens : ∀ i (h : i < J.held.length), lowAt J.hd.low J.held i ≤ (J.held[i]).1 ∧ (J.held[i]).1 ≤ J.hd.gen
  new : ∀ i (h : i < J.held.length), f ≤ i → (J.held[i]).1 = J.hd.gen
  head : D.S.getD (J.hd.turn % 2).toNat [] = headS J.hd
  other : ∀ h', headOf (D.S.getD (1 - J.hd.turn % 2).toNat []) (1 - J.hd.turn % 2) = some h' → h'.turn < J.hd.turn
  durable : ∀ i (h : i < J.held.length), i < f → D.S.getD (posM J.ring (J.hd.first + i)) [] = secH J.held[i]
  loose : D.W = (J.held.drop f).map (fun x => (posM J.ring x.2.1, secH x))
  stale : ∀ q, q < J.ring → ∀ x, decR (D.S.getD (2 + q) []) = .ok x → x.1 ≤ J.hd.gen ∧ (J.hd.first + f < x.2.1 → x.1 < J.hd.gen)
  stop : fits (D.S.getD (posM J.ring (J.hd.first + f)) []) (J.hd.first + f) (lowAt J.hd.low J.held f) J.hd.gen = none
theorem pos_inj {ring : Nat} (hr : 1 ≤ ring) {a b : Int} (h : posM ring a = posM ring b) (hab : a ≤ b) (hb : b < a + ring) : a = b := by
  unfold posM at h
  have h1 : a % ring = b % ring := by
    have := Int.emod_nonneg a (show (ring : Int) ≠ 0 by omega)
    have := Int.emod_nonneg b (show (ring : Int) ≠ 0 by omega)
    omega
  have h2 : (b - a) % ring = 0 := by rw [Int.sub_emod, h1]; simp
  obtain ⟨k, hk⟩ := Int.dvd_of_emod_eq_zero h2
  have hk0 : k = 0 := by
    rcases Int.lt_trichotomy k 0 with h | h | h
    · have : (ring : Int) * k ≤ ring * (-1) := Int.mul_le_mul_of_nonneg_left (by omega) (by omega)
      omega
    · exact h
    · have : (ring : Int) * 1 ≤ ring * k := Int.mul_le_mul_of_nonneg_left (by omega) (by omega)
      omega
  rw [hk0, Int.mul_zero] at hk
  omega
theorem pos_bd {ring : Nat} (hr : 1 ≤ ring) (a : Int) : 2 ≤ posM ring a ∧ posM ring a < 2 + ring ∧ posM ring a = 2 + (posM ring a - 2) ∧ posM ring a - 2 < ring := by
  unfold posM
  have := Int.emod_nonneg a (show (ring : Int) ≠ 0 by omega)
  have := Int.emod_lt_of_pos a (show (0 : Int) < ring by omega)
  omega
theorem pos_wrap {ring : Nat} (a : Int) : posM ring (a + ring) = posM ring a := by
  unfold posM
  rw [Int.add_emod_right]
/-- what a settled disk's sector is -/
theorem settle_other (kept : Nat → Bool) : ∀ (W : List (Nat × List UInt8)) (k : Nat) (S : List (List UInt8)) (p : Nat), (∀ x ∈ W, x.1 ≠ p) → (settleF kept k W S).getD p [] = S.getD p []
  | [], _, _, _, _ => rfl
  | x :: r, k, S, p, h => by
    rw [settleF, settle_other kept r (k + 1) _ p (fun y hy => h y (List.mem_cons_of_mem _ hy))]
    have := h x List.mem_cons_self
    split
    · rw [List.getD_eq_getElem?_getD, List.getD_eq_getElem?_getD, List.getElem?_set_ne this]
    · rfl
theorem settle_at (kept : Nat → Bool) : ∀ (W : List (Nat × List UInt8)) (k : Nat) (S : List (List UInt8)) (t : Nat) (ht : t < W.length), (∀ u (hu : u < W.length), u ≠ t → W[u].1 ≠ W[t].1) → W[t].1 < S.length →
    (settleF kept k W S).getD W[t].1 [] = if kept (k + t) = true then W[t].2 else S.getD W[t].1 []
  | x :: r, k, S, 0, _, h, hp => by
    rw [settleF]
    show (settleF kept (k + 1) r _).getD x.1 [] = _
    rw [settle_other kept r (k + 1) _ x.1 (fun y hy => by
      obtain ⟨u, hu, rfl⟩ := List.getElem_of_mem hy
      exact h (u + 1) (by simpa using hu) (by omega))]
    show _ = if kept (k + 0) = true then x.2 else S.getD x.1 []
    rw [Nat.add_zero]
    have hp' : x.1 < S.length := hp
    split
    · rw [List.getD_eq_getElem?_getD, List.getElem?_set_self hp']; rfl
    · rfl
  | x :: r, k, S, t + 1, ht, h, hp => by
    rw [settleF]
    have ht' : t < r.length := by simpa using ht
    have hx : x.1 ≠ r[t].1 := h 0 (by simp) (by omega)
    have hlen : (if kept k = true then S.set x.1 x.2 else S).length = S.length := by split <;> simp
    have := settle_at kept r (k + 1) (if kept k = true then S.set x.1 x.2 else S) t ht' (fun u hu hne => h (u + 1) (by simpa using hu) (by omega)) (by rw [hlen]; exact hp)
    show (settleF kept (k + 1) r _).getD r[t].1 [] = if kept (k + (t + 1)) = true then r[t].2 else S.getD r[t].1 []
    rw [this, show k + 1 + t = k + (t + 1) by omega]
    have e : (if kept k = true then S.set x.1 x.2 else S).getD r[t].1 [] = S.getD r[t].1 [] := by
      split
      · rw [List.getD_eq_getElem?_getD, List.getD_eq_getElem?_getD, List.getElem?_set_ne hx]
      · rfl
    rw [e]
end Go.Proofs.YtanjfjiaheghcaaGreatDoor
/- Contracts of functions of the given program, and plain laws on what they compute: parts of the proofs of laws. -/
namespace Go.Proofs.YtanjfjiaheghcaaGreatDoor
open Go Go.GL

section
variable {J : Jrn} {D : Dsk} {f : Nat} {B : Int}
theorem JInv.wlen (I : JInv J D f B) : D.W.length = J.held.length - f := by rw [I.loose, List.length_map, List.length_drop]
theorem JInv.wget (I : JInv J D f B) {t : Nat} (h : t < D.W.length) : ∃ h' : f + t < J.held.length, D.W[t] = (posM J.ring (J.hd.first + (f + t : Nat)), secH J.held[f + t]) := by
  have hl := I.wlen
  have h' : f + t < J.held.length := by omega
  refine ⟨h', ?_⟩
  have : D.W[t]? = some (posM J.ring (J.hd.first + (f + t : Nat)), secH J.held[f + t]) := by
    rw [I.loose, List.getElem?_map, List.getElem?_drop, List.getElem?_eq_getElem h', ← I.seq _ h']; rfl
  rw [List.getElem?_eq_getElem h] at this
  exact Option.some.inj this
theorem JInv.posne (I : JInv J D f B) {i j : Nat} (hi : i < J.ring) (hj : j < J.ring) (h : i ≠ j) : posM J.ring (J.hd.first + (i : Nat)) ≠ posM J.ring (J.hd.first + (j : Nat)) := by
  intro e
  rcases Nat.lt_or_gt_of_ne h with h1 | h1
  · have := pos_inj I.ring.1 e (by omega) (by omega); omega
  · have := pos_inj I.ring.1 e.symm (by omega) (by omega); omega
/-- sectors ahead of the ring, and those of no loose record, stay -/
theorem JInv.keep (I : JInv J D f B) (kept : Nat → Bool) {p : Nat} (h : ∀ i (_ : i < J.held.length), f ≤ i → posM J.ring (J.hd.first + (i : Nat)) ≠ p) : (D.settle kept).S.getD p [] = D.S.getD p [] := by
  refine settle_other kept D.W 0 D.S p (fun x hx => ?_)
  obtain ⟨t, ht, rfl⟩ := List.getElem_of_mem hx
  obtain ⟨h', e⟩ := I.wget ht
  rw [e]
  exact h _ h' (by omega)
theorem JInv.keepHead (I : JInv J D f B) (kept : Nat → Bool) {p : Nat} (hp : p < 2) : (D.settle kept).S.getD p [] = D.S.getD p [] :=
  I.keep kept fun i _ _ e => by have := (pos_bd I.ring.1 (J.hd.first + (i : Nat))).1; omega
theorem JInv.atF (I : JInv J D f B) (kept : Nat → Bool) {i : Nat} (h : i < J.held.length) (hf : i < f) : (D.settle kept).S.getD (posM J.ring (J.hd.first + (i : Nat))) [] = secH J.held[i] := by
  have hl := I.len
  rw [I.keep kept (fun j hj hfj => I.posne (by omega) (by omega) (by omega)), I.durable i h hf]
theorem JInv.atL (I : JInv J D f B) (kept : Nat → Bool) {i : Nat} (h : i < J.held.length) (hf : f ≤ i) : (D.settle kept).S.getD (posM J.ring (J.hd.first + (i : Nat))) [] = if kept (i - f) = true then secH J.held[i] else D.S.getD (posM J.ring (J.hd.first + (i : Nat))) [] := by
  have hl := I.len
  have hw := I.wlen
  have ht : i - f < D.W.length := by omega
  obtain ⟨h', e⟩ := I.wget ht
  have e2 : f + (i - f) = i := by omega
  have hpb := pos_bd I.ring.1 (J.hd.first + (i : Nat))
  have hlen := I.ring.2.2
  have := settle_at kept D.W 0 D.S (i - f) ht (fun u hu hne => by
    obtain ⟨hu', eu⟩ := I.wget hu
    rw [eu, e]
    exact I.posne (by omega) (by omega) (by omega)) (by rw [e]; simp only [e2]; omega)
  rw [e] at this
  simp only [e2, Nat.zero_add] at this
  exact this
theorem JInv.atN (I : JInv J D f B) (kept : Nat → Bool) (h : J.held.length < J.ring) : (D.settle kept).S.getD (posM J.ring (J.hd.first + (J.held.length : Nat))) [] = D.S.getD (posM J.ring (J.hd.first + (J.held.length : Nat))) [] :=
  I.keep kept fun i hi _ => I.posne (by omega) h (by omega)
/-- what a settled disk's ring holds -/
theorem JInv.any (I : JInv J D f B) (kept : Nat → Bool) (p : Nat) : (D.settle kept).S.getD p [] = D.S.getD p [] ∨ ∃ i, ∃ h : i < J.held.length, f ≤ i ∧ (D.settle kept).S.getD p [] = secH J.held[i] := by
  by_cases h : ∃ i, ∃ _ : i < J.held.length, f ≤ i ∧ posM J.ring (J.hd.first + (i : Nat)) = p
  · obtain ⟨i, hi, hf, rfl⟩ := h
    rw [I.atL kept hi hf]
    by_cases hk : kept (i - f) = true
    · rw [if_pos hk]; exact .inr ⟨i, hi, hf, rfl⟩
    · rw [if_neg hk]; exact .inl rfl
  · exact .inl (I.keep kept fun i hi hf e => h ⟨i, hi, hf, e⟩)
theorem JInv.dec (I : JInv J D f B) (hB : B ≤ widest) {i : Nat} (h : i < J.held.length) : decR (secH J.held[i]) = .ok J.held[i] := by
  have h1 := I.right _ (List.getElem_mem h)
  have h2 := I.gens i h
  have h3 := I.hdr
  have h4 := I.bound
  have hlow : 0 ≤ lowAt J.hd.low J.held i := by
    clear h2
    induction i with
    | zero => exact h3.2.2.1
    | succ i ih =>
      have hi : i < J.held.length := by omega
      rw [lowAt_succ _ _ hi]
      have := ih hi (I.right _ (List.getElem_mem hi))
      have := (I.gens i hi).1
      omega
  exact decR_enc h1 ⟨by omega, by omega⟩
theorem low_le (I : JInv J D f B) {i : Nat} (h : i ≤ J.held.length) : lowAt J.hd.low J.held i ≤ J.hd.gen := by
  cases i with
  | zero => exact I.hdr.2.2.2
  | succ i => rw [lowAt_succ _ _ (by omega)]; exact (I.gens i (by omega)).2
theorem JInv.lowAt_new (I : JInv J D f B) {i : Nat} (h : i ≤ J.held.length) (hf : f < i) : lowAt J.hd.low J.held i = J.hd.gen := by
  obtain ⟨k, rfl⟩ : ∃ k, i = k + 1 := ⟨i - 1, by omega⟩
  rw [lowAt_succ _ _ (by omega)]
  exact I.new k (by omega) (by omega)
/-- nothing further is found where the disk is as it was -/
theorem JInv.stops (I : JInv J D f B) (_ : B ≤ widest) {p : Nat} (hp : p ≤ J.held.length) (hf : f ≤ p) : fits (D.S.getD (posM J.ring (J.hd.first + (p : Nat))) []) (J.hd.first + (p : Nat)) (lowAt J.hd.low J.held p) J.hd.gen = none := by
  by_cases h : f = p
  · subst h; exact I.stop
  · refine fits_none (fun x hx h1 h2 h3 => ?_)
    obtain ⟨_, _, e3, e4⟩ := pos_bd I.ring.1 (J.hd.first + (p : Nat))
    rw [e3] at hx
    have := (I.stale _ e4 x hx).2 (by omega)
    rw [I.lowAt_new hp (by omega)] at h2
    omega
/-- how many of the loose records are kept, without a gap -/
def leadK (kept : Nat → Bool) : Nat → Nat → Nat
  | 0, _ => 0
  | n + 1, k => if kept k = true then leadK kept n (k + 1) + 1 else 0
theorem leadK_le (kept : Nat → Bool) : ∀ n k, leadK kept n k ≤ n
  | 0, _ => Nat.le_refl _
  | n + 1, k => by unfold leadK; split; have := leadK_le kept n (k + 1); omega; omega
theorem leadK_hit (kept : Nat → Bool) : ∀ n k j, j < leadK kept n k → kept (k + j) = true
  | 0, _, _, h => by simp [leadK] at h
  | n + 1, k, j, h => by
    unfold leadK at h
    split at h
    · rename_i hk
      cases j with
      | zero => exact hk
      | succ j => have := leadK_hit kept n (k + 1) j (by omega); rwa [show k + 1 + j = k + (j + 1) by omega] at this
    · omega
theorem leadK_miss (kept : Nat → Bool) : ∀ n k, leadK kept n k < n → kept (k + leadK kept n k) = false
  | 0, _, h => by omega
  | n + 1, k, h => by
    unfold leadK at h ⊢
    split
    · rename_i hk
      rw [if_pos hk] at h
      have := leadK_miss kept n (k + 1) (by omega)
      rwa [show k + 1 + leadK kept n (k + 1) = k + (leadK kept n (k + 1) + 1) by omega] at this
    · rename_i hk; simpa using hk
theorem JInv.hok (I : JInv J D f B) (hB : B + 2 ≤ widest) : J.hd.ok := by
  have h1 := I.hdr
  have h2 := I.bound
  exact ⟨by omega, by omega, by omega, by omega⟩
theorem mod2 (t : Int) (_ : 0 ≤ t) : (t % 2 = 0 ∧ (t + 1) % 2 = 1 ∧ (t % 2).toNat = 0 ∧ (1 - t % 2).toNat = 1 ∧ ((t + 1) % 2).toNat = 1 ∧ (1 - (t + 1) % 2).toNat = 0) ∨ (t % 2 = 1 ∧ (t + 1) % 2 = 0 ∧ (t % 2).toNat = 1 ∧ (1 - t % 2).toNat = 0 ∧ ((t + 1) % 2).toNat = 0 ∧ (1 - (t + 1) % 2).toNat = 1) := by omega
theorem JInv.newest (I : JInv J D f B) (hB : B + 2 ≤ widest) {a b : List UInt8} (ha : a = D.S.getD 0 []) (hb : b = D.S.getD 1 []) : newestM a b = some J.hd := by
  have hk := I.hok hB
  have h1 := headOf_headS hk
  have hh := I.head
  have ho := I.other
  have hz0 : headOf (headS J.hd) (J.hd.turn % 2) = some J.hd := by rw [h1, if_pos rfl]
  subst ha hb
  unfold newestM
  rcases mod2 J.hd.turn I.hdr.1 with ⟨e1, _, e3, e4, _, _⟩ | ⟨e1, _, e3, e4, _, _⟩
  · rw [e3] at hh
    rw [e4, e1] at ho
    rw [e1] at hz0
    rw [hh, hz0]
    cases hy : headOf (D.S.getD 1 []) 1 with
    | none => rfl
    | some y =>
      have := ho y hy
      dsimp only
      rw [if_neg (by omega)]
  · rw [e3] at hh
    rw [e4, e1] at ho
    rw [e1] at hz0
    rw [hh, hz0]
    cases hy : headOf (D.S.getD 0 []) 0 with
    | none => rfl
    | some y =>
      have := ho y hy
      dsimp only
      rw [if_pos (by omega)]
theorem save_S (D : Dsk) (h : Hd) : (saveM D h).S = (D.flush).S.set (h.turn % 2).toNat (headS h) ∧ (saveM D h).W = [] := by
  refine ⟨?_, rfl⟩
  show settleF (fun _ => true) 0 (D.W ++ [((h.turn % 2).toNat, headS h)]) D.S = _
  rw [settleF_snoc, if_pos rfl]
  rfl
theorem flush_nil {D : Dsk} (h : D.W = []) : D.flush = D := by
  obtain ⟨S, W⟩ := D
  dsimp only at h
  subst h
  rfl
theorem getD_set_ne {S : List (List UInt8)} {i p : Nat} {x : List UInt8} (h : i ≠ p) : (S.set i x).getD p [] = S.getD p [] := by
  rw [List.getD_eq_getElem?_getD, List.getD_eq_getElem?_getD, List.getElem?_set_ne h]
theorem getD_set_eq {S : List (List UInt8)} {i : Nat} {x : List UInt8} (h : i < S.length) : (S.set i x).getD i [] = x := by
  rw [List.getD_eq_getElem?_getD, List.getElem?_set_self h]; rfl
theorem save_ok {D : Dsk} (h : D.ok) (hl : 2 ≤ D.S.length) (x : Hd) : (saveM D x).ok := by
  unfold saveM
  exact Dsk.settle_ok (Dsk.put_ok h (by omega) (headS_len x)) _
theorem save_len (D : Dsk) (x : Hd) : (saveM D x).S.length = D.S.length := Dsk.settle_len _ _
/-- BEHIND A CRASH what was fast is held, and of what wasn't the first ones alone; the journal goes on -/
theorem JInv.crash (I : JInv J D f B) (hB : B + 2 ≤ widest) (kept : Nat → Bool) : ∃ p, f ≤ p ∧ p ≤ J.held.length ∧ (∀ n, (∀ k, kept k = true) → n = J.held.length → p = n) ∧
    openM (D.settle kept) J.ring = .ok (⟨J.ring, { J.hd with gen := J.hd.gen + 1, turn := J.hd.turn + 1 }, J.held.take p⟩, saveM (D.settle kept) { J.hd with gen := J.hd.gen + 1, turn := J.hd.turn + 1 }) ∧
    JInv ⟨J.ring, { J.hd with gen := J.hd.gen + 1, turn := J.hd.turn + 1 }, J.held.take p⟩ (saveM (D.settle kept) { J.hd with gen := J.hd.gen + 1, turn := J.hd.turn + 1 }) p (B + 2) := by
  obtain ⟨r1, r2, r3⟩ := I.ring
  have hlen := I.len
  have hfl := I.fle
  obtain ⟨t0, t1, t2, t3⟩ := I.hdr
  have hbd := I.bound
  obtain ⟨n, hn⟩ : ∃ n, n = leadK kept (J.held.length - f) 0 := ⟨_, rfl⟩
  have hn1 := leadK_le kept (J.held.length - f) 0
  have hn2 : ∀ j, j < n → kept j = true := fun j hj => by have := leadK_hit kept (J.held.length - f) 0 j (by omega); rwa [Nat.zero_add] at this
  have hn3 : n < J.held.length - f → kept n = false := fun h => by have := leadK_miss kept (J.held.length - f) 0 (by omega); rwa [Nat.zero_add, ← hn] at this
  have hW : (D.settle kept).W = [] := rfl
  have hcur : ∀ i, (D.settle kept).cur i = (D.settle kept).S.getD i [] := fun i => rfl
  have hlenS : (D.settle kept).S.length = D.S.length := Dsk.settle_len _ _
  have hrec : ∀ i (h : i < J.held.length), i < f + n → (D.settle kept).S.getD (posM J.ring (J.hd.first + (i : Nat))) [] = secH J.held[i] := fun i h hi => by
    by_cases hif : i < f
    · exact I.atF kept h hif
    · rw [I.atL kept h (by omega), if_pos (hn2 _ (by omega))]
  have hstop : f + n < J.ring → fits ((D.settle kept).S.getD (posM J.ring (J.hd.first + (f + n : Nat))) []) (J.hd.first + (f + n : Nat)) (lowAt J.hd.low J.held (f + n)) J.hd.gen = none := fun h => by
    by_cases hL : f + n < J.held.length
    · rw [I.atL kept hL (by omega), show f + n - f = n by omega, if_neg (by rw [hn3 (by omega)]; decide)]
      exact I.stops (by omega) (by omega) (by omega)
    · have : f + n = J.held.length := by omega
      rw [this, I.atN kept (by omega)]
      exact I.stops (by omega) (Nat.le_refl _) (by omega)
  have hscan : scanM (D.settle kept) J.ring J.hd = J.held.take (f + n) := by
    refine scan_take (by omega) (by omega) (fun i hi => ?_) (fun h => ?_)
    · rw [hcur, hrec i (by omega) hi]
      exact fits_ok (I.dec (by omega) (by omega)) (I.seq i (by omega)) (I.gens i (by omega)).1 (I.gens i (by omega)).2
    · rw [hcur]; exact hstop h
  have hnew : newestM ((D.settle kept).cur 0) ((D.settle kept).cur 1) = some J.hd :=
    I.newest hB (by rw [hcur]; exact I.keepHead kept (by decide)) (by rw [hcur]; exact I.keepHead kept (by decide))
  have hsv := save_S (D.settle kept) { J.hd with gen := J.hd.gen + 1, turn := J.hd.turn + 1 }
  rw [flush_nil hW] at hsv
  have hsD : ∀ q, (saveM (D.settle kept) { J.hd with gen := J.hd.gen + 1, turn := J.hd.turn + 1 }).S.getD (2 + q) [] = (D.settle kept).S.getD (2 + q) [] := fun q => by
    rw [hsv.1, getD_set_ne (by dsimp only; omega)]
  have hsP : ∀ a, (saveM (D.settle kept) { J.hd with gen := J.hd.gen + 1, turn := J.hd.turn + 1 }).S.getD (posM J.ring a) [] = (D.settle kept).S.getD (posM J.ring a) [] := fun a => by
    rw [(pos_bd r1 a).2.2.1]; exact hsD _
  have hlt : (J.held.take (f + n)).length = f + n := by rw [List.length_take]; omega
  have hget : ∀ i (h : i < (J.held.take (f + n)).length), (J.held.take (f + n))[i] = J.held[i]'(by omega) := fun i h => List.getElem_take
  have hlow : ∀ i, i ≤ f + n → lowAt J.hd.low (J.held.take (f + n)) i = lowAt J.hd.low J.held i := fun i hi => by
    unfold lowAt
    split
    · rfl
    · rw [List.getD_eq_getElem?_getD, List.getD_eq_getElem?_getD, List.getElem?_take, if_pos (by omega)]
  refine ⟨f + n, by omega, by omega, fun m hk hm => ?_, ?_, ?_⟩
  · by_cases h : n < J.held.length - f
    · have := hn3 h; rw [hk] at this; cases this
    · omega
  · unfold openM
    rw [if_neg (by rw [hlenS]; omega), hnew]
    dsimp only
    rw [Int.toNat_natCast, hscan]
  · refine ⟨save_ok (Dsk.settle_ok I.dok kept) (by rw [hlenS]; omega) _, ⟨r1, r2, by rw [save_len, hlenS]; exact r3⟩, ⟨by dsimp only; omega, t1, t2, by dsimp only; omega⟩, by dsimp only; rw [hlt]; omega, by dsimp only; rw [hlt]; omega, by dsimp only; rw [hlt]; exact Nat.le_refl _, ?_, ?_, ?_, ?_, ?_, ?_, ?_, ?_, ?_, ?_⟩
    · intro i h
      rw [hget i h]
      exact I.seq i _
    · intro x hx
      exact I.right x (List.mem_of_mem_take hx)
    · intro i h
      dsimp only at h ⊢
      rw [hget i h, hlow i (by omega)]
      have := I.gens i (by omega)
      exact ⟨this.1, by omega⟩
    · intro i h hi
      dsimp only at h
      omega
    · dsimp only
      rw [hsv.1, getD_set_eq (by rw [hlenS]; dsimp only; omega)]
    · intro h' hh
      dsimp only at hh ⊢
      rw [hsv.1] at hh
      rcases mod2 J.hd.turn t0 with ⟨e1, e2, e3, e4, e5, e6⟩ | ⟨e1, e2, e3, e4, e5, e6⟩
      · rw [e5, e6, e2, getD_set_ne (by decide), I.keepHead kept (by decide)] at hh
        have := I.head
        rw [e3] at this
        rw [this, headOf_headS (I.hok hB), e1, if_pos (by decide)] at hh
        cases hh
        omega
      · rw [e5, e6, e2, getD_set_ne (by decide), I.keepHead kept (by decide)] at hh
        have := I.head
        rw [e3] at this
        rw [this, headOf_headS (I.hok hB), e1, if_pos (by decide)] at hh
        cases hh
        omega
    · intro i h hi
      dsimp only at h ⊢
      rw [hsP, hget i h, hrec i (by omega) (by omega)]
    · rw [hsv.2]
      dsimp only
      rw [List.drop_eq_nil_of_le (by rw [hlt]; exact Nat.le_refl _)]
      rfl
    · intro q hq x hx
      dsimp only at hq ⊢
      rw [hsD] at hx
      have hg : x.1 ≤ J.hd.gen := by
        rcases I.any kept (2 + q) with h | ⟨i, hi, _, h⟩
        · rw [h] at hx
          exact (I.stale q hq x hx).1
        · rw [h, I.dec (by omega) hi] at hx
          cases hx
          exact (I.gens i hi).2
      exact ⟨by omega, fun _ => by omega⟩
    · dsimp only
      rw [hsP]
      rw [hlow _ (Nat.le_refl _)]
      refine fits_none (fun x hx h1 h2 h3 => ?_)
      by_cases hr : f + n < J.ring
      · have hno := hstop hr
        obtain ⟨_, _, e3, e4⟩ := pos_bd r1 (J.hd.first + ((f + n : Nat) : Int))
        have hg : x.1 ≤ J.hd.gen := by
          rcases I.any kept (posM J.ring (J.hd.first + ((f + n : Nat) : Int))) with h | ⟨i, hi, _, h⟩
          · rw [h, e3] at hx
            exact (I.stale _ e4 x hx).1
          · rw [h, I.dec (by omega) hi] at hx
            cases hx
            exact (I.gens i hi).2
        rw [fits_ok hx h1 h2 hg] at hno
        cases hno
      · have hfr : f + n = J.ring := by omega
        have h0 : 0 < J.held.length := by omega
        have := hrec 0 h0 (by omega)
        rw [hfr, pos_wrap] at hx
        rw [show J.hd.first + ((0 : Nat) : Int) = J.hd.first by omega] at this
        rw [this, I.dec (by omega) h0] at hx
        cases hx
        have := I.seq 0 h0
        omega
end
end Go.Proofs.YtanjfjiaheghcaaGreatDoor
/- Contracts of functions of the given program, and plain laws on what they compute: parts of the proofs of laws. -/
namespace Go.Proofs.YtanjfjiaheghcaaGreatDoor
open Go Go.GL

section
variable {J : Jrn} {D : Dsk} {f : Nat} {B : Int}
/-- a record is put behind -/
theorem JInv.append (I : JInv J D f B) {r : Rec} {J' : Jrn} {D' : Dsk} (h : appendM J D r = .ok (J', D')) : JInv J' D' f (B + 2) ∧ J'.hd = J.hd ∧ J'.ring = J.ring ∧ J'.held = J.held ++ [(J.hd.gen, setSeq r J.next)] := by
  unfold appendM at h
  split at h
  · cases h
  rename_i hfull
  split at h
  · rename_i hr
    cases h
    obtain ⟨r1, r2, r3⟩ := I.ring
    have hlen := I.len
    have hfl := I.fle
    have hbd := I.bound
    have hpb := pos_bd r1 J.next
    have hll : (J.held ++ [(J.hd.gen, setSeq r J.next)]).length = J.held.length + 1 := by simp
    have hget : ∀ i (h : i < J.held.length), (J.held ++ [(J.hd.gen, setSeq r J.next)])[i]'(by omega) = J.held[i] := fun i h => List.getElem_append_left h
    have hgetn : (J.held ++ [(J.hd.gen, setSeq r J.next)])[J.held.length]'(by omega) = (J.hd.gen, setSeq r J.next) := by simp
    have hlow : ∀ i, i ≤ J.held.length → lowAt J.hd.low (J.held ++ [(J.hd.gen, setSeq r J.next)]) i = lowAt J.hd.low J.held i := fun i hi => by
      unfold lowAt
      split
      · rfl
      · rw [List.getD_eq_getElem?_getD, List.getD_eq_getElem?_getD, List.getElem?_append_left (by omega)]
    refine ⟨⟨Dsk.put_ok I.dok (by omega) (sectorM_len (bodyM_len hr.1)), ⟨r1, r2, r3⟩, I.hdr, by dsimp only; rw [hll]; omega, by dsimp only; rw [hll]; omega, by dsimp only; rw [hll]; omega, ?_, ?_, ?_, ?_, I.head, I.other, ?_, ?_, I.stale, ?_⟩, rfl, rfl, rfl⟩
    · intro i h
      dsimp only at h ⊢
      by_cases hi : i < J.held.length
      · rw [hget i hi]; exact I.seq i hi
      · have : i = J.held.length := by omega
        subst this
        rw [hgetn]
        rfl
    · intro x hx
      rcases List.mem_append.1 hx with hx | hx
      · exact I.right x hx
      · rw [List.mem_singleton.1 hx]; exact hr.1
    · intro i h
      dsimp only at h ⊢
      by_cases hi : i < J.held.length
      · rw [hget i hi, hlow i (by omega)]; exact I.gens i hi
      · have : i = J.held.length := by omega
        subst this
        rw [hgetn, hlow _ (Nat.le_refl _)]
        exact ⟨low_le I (Nat.le_refl _), Int.le_refl _⟩
    · intro i h hi
      dsimp only at h ⊢
      by_cases hi2 : i < J.held.length
      · rw [hget i hi2]; exact I.new i hi2 hi
      · have : i = J.held.length := by omega
        subst this
        rw [hgetn]
    · intro i h hi
      dsimp only at h ⊢
      rw [hget i (by omega)]
      exact I.durable i (by omega) hi
    · dsimp only
      rw [List.drop_append_of_le_length hfl, List.map_append, ← I.loose]
      rfl
    · dsimp only
      rw [hlow f hfl]
      exact I.stop
  · cases h
/-- all is fast -/
theorem JInv.flush (I : JInv J D f B) (hB : B + 2 ≤ widest) : JInv J D.flush J.held.length B := by
  obtain ⟨r1, r2, r3⟩ := I.ring
  have hlen := I.len
  have hfl := I.fle
  have hlenS : D.flush.S.length = D.S.length := Dsk.settle_len _ _
  have hrec : ∀ i (h : i < J.held.length), D.flush.S.getD (posM J.ring (J.hd.first + (i : Nat))) [] = secH J.held[i] := fun i h => by
    by_cases hif : i < f
    · exact I.atF _ h hif
    · unfold Dsk.flush
      rw [I.atL _ h (by omega), if_pos rfl]
  have hk0 : ∀ p, p < 2 → D.flush.S.getD p [] = D.S.getD p [] := fun p hp => I.keepHead _ hp
  refine ⟨Dsk.settle_ok I.dok _, ⟨r1, r2, by rw [hlenS]; exact r3⟩, I.hdr, I.bound, I.len, Nat.le_refl _, I.seq, I.right, I.gens, fun i h hi => by omega, ?_, ?_, fun i h _ => hrec i h, ?_, ?_, ?_⟩
  · rw [hk0 _ (by have := mod2 J.hd.turn I.hdr.1; omega)]; exact I.head
  · intro h' hh
    rw [hk0 _ (by have := mod2 J.hd.turn I.hdr.1; omega)] at hh
    exact I.other h' hh
  · rw [List.drop_eq_nil_of_le (Nat.le_refl _)]; rfl
  · intro q hq x hx
    rcases I.any (fun _ => true) (2 + q) with h | ⟨i, hi, hf, h⟩
    · have h' : D.flush.S.getD (2 + q) [] = D.S.getD (2 + q) [] := h
      rw [h'] at hx
      have := I.stale q hq x hx
      exact ⟨this.1, fun h2 => this.2 (by omega)⟩
    · have h' : D.flush.S.getD (2 + q) [] = secH J.held[i] := h
      rw [h', I.dec (by omega) hi] at hx
      cases hx
      have := I.seq i hi
      exact ⟨(I.gens i hi).2, fun h2 => by omega⟩
  · by_cases hr : J.held.length < J.ring
    · have := I.atN (fun _ => true) hr
      have h' : D.flush.S.getD (posM J.ring (J.hd.first + (J.held.length : Nat))) [] = D.S.getD (posM J.ring (J.hd.first + (J.held.length : Nat))) [] := this
      rw [h']
      exact I.stops (by omega) (Nat.le_refl _) hfl
    · have hfr : J.held.length = J.ring := by omega
      have h0 : 0 < J.held.length := by omega
      refine fits_none (fun x hx h1 h2 h3 => ?_)
      have := hrec 0 h0
      rw [hfr, pos_wrap] at hx
      rw [show J.hd.first + ((0 : Nat) : Int) = J.hd.first by omega] at this
      rw [this, I.dec (by omega) h0] at hx
      cases hx
      have := I.seq 0 h0
      omega
theorem flush_flush (D : Dsk) : D.flush.flush = D.flush := flush_nil rfl
/-- the first ones are dropped -/
theorem JInv.trim (I : JInv J D f B) (hB : B + 2 ≤ widest) {k : Int} {J' : Jrn} {D' : Dsk} (h : trimM J D k = .ok (J', D')) :
    (k = 0 ∧ J' = J ∧ D' = D) ∨ (0 < k ∧ k ≤ J.held.length ∧ J'.held = J.held.drop k.toNat ∧ J'.hd.first = J.hd.first + k ∧ J'.ring = J.ring ∧ JInv J' D' J'.held.length (B + 2) ∧ D'.W = []) := by
  unfold trimM at h
  split at h
  · cases h
  rename_i hk
  split at h
  · rename_i h0
    cases h
    exact .inl ⟨h0, rfl, rfl⟩
  rename_i h0
  cases h
  have I2 := I.flush hB
  obtain ⟨r1, r2, r3⟩ := I2.ring
  obtain ⟨t0, t1, t2, t3⟩ := I2.hdr
  have hlen := I2.len
  have hbd := I2.bound
  obtain ⟨n, rfl⟩ : ∃ n : Nat, k = n := ⟨k.toNat, by omega⟩
  rw [Int.toNat_natCast]
  have hn0 : 0 < n := by omega
  have hnl : n ≤ J.held.length := by omega
  have hlow1 : (J.held.getD (n - 1) (0, rec0)).1 = lowAt J.hd.low J.held n := by
    unfold lowAt; rw [if_neg (by omega)]
  rw [hlow1]
  have hlle := low_le I2 hnl
  have hlnn : 0 ≤ lowAt J.hd.low J.held n := by
    have hall : ∀ i, i ≤ J.held.length → 0 ≤ lowAt J.hd.low J.held i := by
      intro i
      induction i with
      | zero => intro _; exact t2
      | succ i ih =>
        intro hi
        rw [lowAt_succ _ _ (by omega)]
        have := ih (by omega)
        have := (I2.gens i (by omega)).1
        omega
    exact hall n hnl
  have hsv := save_S D.flush { J.hd with turn := J.hd.turn + 1, first := J.hd.first + (n : Int), low := lowAt J.hd.low J.held n }
  rw [flush_flush] at hsv
  have hsD : ∀ q, (saveM D.flush { J.hd with turn := J.hd.turn + 1, first := J.hd.first + (n : Int), low := lowAt J.hd.low J.held n }).S.getD (2 + q) [] = D.flush.S.getD (2 + q) [] := fun q => by
    rw [hsv.1, getD_set_ne (by dsimp only; omega)]
  have hsP : ∀ a, (saveM D.flush { J.hd with turn := J.hd.turn + 1, first := J.hd.first + (n : Int), low := lowAt J.hd.low J.held n }).S.getD (posM J.ring a) [] = D.flush.S.getD (posM J.ring a) [] := fun a => by
    rw [(pos_bd r1 a).2.2.1]; exact hsD _
  have hlt : (J.held.drop n).length = J.held.length - n := List.length_drop
  have hget : ∀ i (h : i < (J.held.drop n).length), (J.held.drop n)[i] = J.held[n + i]'(by omega) := fun i h => List.getElem_drop
  have hlow : ∀ i, i ≤ J.held.length - n → lowAt (lowAt J.hd.low J.held n) (J.held.drop n) i = lowAt J.hd.low J.held (n + i) := fun i hi => by
    cases i with
    | zero => rfl
    | succ i =>
      rw [lowAt_succ _ _ (by omega), hget, ← Nat.add_assoc, lowAt_succ _ _ (by omega)]
  have hf : J.hd.first + (n : Int) + ((J.held.drop n).length : Int) = J.hd.first + (J.held.length : Int) := by omega
  refine .inr ⟨by omega, by omega, rfl, rfl, rfl, ⟨save_ok I2.dok (by omega) _, ⟨r1, r2, by rw [save_len]; exact r3⟩, ⟨by dsimp only; omega, by dsimp only; omega, hlnn, hlle⟩, by dsimp only; omega, by dsimp only; omega, Nat.le_refl _, ?_, ?_, ?_, fun i h hi => by omega, ?_, ?_, ?_, ?_, ?_, ?_⟩, rfl⟩
  · intro i h
    dsimp only at h ⊢
    rw [hget i h, I2.seq]
    omega
  · intro x hx
    exact I2.right x (List.mem_of_mem_drop hx)
  · intro i h
    dsimp only at h ⊢
    rw [hget i h, hlow i (by omega)]
    exact I2.gens (n + i) (by omega)
  · dsimp only
    rw [hsv.1, getD_set_eq (by omega)]
  · intro h' hh
    dsimp only at hh ⊢
    rw [hsv.1] at hh
    have hh2 := headOf_headS (I.hok hB)
    rcases mod2 J.hd.turn t0 with ⟨e1, e2, e3, e4, e5, e6⟩ | ⟨e1, e2, e3, e4, e5, e6⟩
    · rw [e5, e6, e2, getD_set_ne (by decide)] at hh
      have := I2.head
      rw [e3] at this
      rw [this, hh2, e1, if_pos (by decide)] at hh
      cases hh
      omega
    · rw [e5, e6, e2, getD_set_ne (by decide)] at hh
      have := I2.head
      rw [e3] at this
      rw [this, hh2, e1, if_pos (by decide)] at hh
      cases hh
      omega
  · intro i h _
    dsimp only at h ⊢
    rw [hsP, hget i h, show J.hd.first + (n : Int) + (i : Int) = J.hd.first + ((n + i : Nat) : Int) by omega]
    exact I2.durable (n + i) (by omega) (by omega)
  · rw [hsv.2]
    dsimp only
    rw [List.drop_eq_nil_of_le (Nat.le_refl _)]
    rfl
  · intro q hq x hx
    dsimp only at hq ⊢
    rw [hsD] at hx
    have := I2.stale q hq x hx
    exact ⟨this.1, fun h2 => this.2 (by omega)⟩
  · dsimp only
    rw [hsP, hf, hlow _ (by omega), show n + (J.held.drop n).length = J.held.length by omega]
    exact I2.stop
end
/-- a journal on an empty disk -/
theorem JInv.fresh {n ring : Nat} (h1 : 1 ≤ ring) (h2 : ring ≤ 512) (h3 : 2 + ring ≤ n) (h4 : n ≤ 1024) :
    openM (Dsk.new n) ring = .ok (⟨ring, ⟨1, 1, 1, 0⟩, []⟩, saveM (Dsk.new n) ⟨1, 1, 1, 0⟩) ∧ JInv ⟨ring, ⟨1, 1, 1, 0⟩, []⟩ (saveM (Dsk.new n) ⟨1, 1, 1, 0⟩) 0 3 := by
  have hS : (Dsk.new n).S = List.replicate n zero64 := by
    unfold Dsk.new
    rw [show (max 0 (min (n : Int) 1024)).toNat = n by omega]
  have hget : ∀ p, p < n → (Dsk.new n).S.getD p [] = zero64 := fun p hp => by
    rw [hS, List.getD_eq_getElem?_getD, List.getElem?_replicate, if_pos hp]; rfl
  have hcur : ∀ p, p < n → (Dsk.new n).cur p = zero64 := fun p hp => hget p hp
  have hl : (Dsk.new n).S.length = n := by rw [hS]; exact List.length_replicate
  have hpb := fun a => pos_bd h1 a
  have hfz : ∀ s l g, fits zero64 s l g = none := fun s l g => fits_none fun x hx _ _ _ => decR_zero x hx
  have hscan : scanM (Dsk.new n) ring hd0 = [] := by
    have := scan_take (D := Dsk.new n) (ring := ring) (h := hd0) (held := []) (p := 0) (Nat.zero_le _) (Nat.le_refl _) (fun i hi => by omega) (fun _ => by
      rw [hcur _ (by have := hpb (hd0.first + ((0 : Nat) : Int)); omega)]; exact hfz _ _ _)
    exact this
  have hnew : newestM ((Dsk.new n).cur 0) ((Dsk.new n).cur 1) = some hd0 := by
    rw [hcur 0 (by omega), hcur 1 (by omega)]
    unfold newestM
    rw [headOf_zero, headOf_zero]
    dsimp only
    rw [if_pos ⟨rfl, rfl⟩]
  have hsv := save_S (Dsk.new n) ⟨1, 1, 1, 0⟩
  rw [flush_nil rfl] at hsv
  have hsD : ∀ q, q < ring → (saveM (Dsk.new n) ⟨1, 1, 1, 0⟩).S.getD (2 + q) [] = zero64 := fun q hq => by
    rw [hsv.1, getD_set_ne (by show (1 : Nat) ≠ 2 + q; omega)]; exact hget _ (by omega)
  refine ⟨?_, ⟨save_ok (Dsk.new_ok _) (by omega) _, ⟨h1, h2, by rw [save_len]; dsimp only; omega⟩, ⟨(by decide : (0 : Int) ≤ 1), (by decide : (1 : Int) ≤ 1), (by decide : (0 : Int) ≤ 0), (by decide : (0 : Int) ≤ 1)⟩, by simp, Nat.zero_le _, Nat.le_refl _, (fun i h => by simp at h), (fun x hx => by cases hx), (fun i h => by simp at h), (fun i h => by simp at h), ?_, ?_, (fun i h => by simp at h), rfl, ?_, ?_⟩⟩
  · unfold openM
    rw [if_neg (by rw [hl]; omega), hnew]
    dsimp only
    rw [Int.toNat_natCast, hscan]
    rfl
  · rw [hsv.1]
    exact getD_set_eq (by rw [hl]; show (1 : Nat) < n; omega)
  · intro h' hh
    have hh : headOf (((Dsk.new n).S.set 1 (headS ⟨1, 1, 1, 0⟩)).getD 0 []) 0 = some h' := by rw [hsv.1] at hh; exact hh
    rw [getD_set_ne (show (1 : Nat) ≠ 0 by decide), hget 0 (by omega), headOf_zero] at hh
    cases hh
  · intro q hq x hx
    rw [hsD q hq] at hx
    exact absurd hx (decR_zero x)
  · obtain ⟨_, _, e3, e4⟩ := hpb ((1 : Int) + ((0 : Nat) : Int))
    show fits ((saveM (Dsk.new n) ⟨1, 1, 1, 0⟩).S.getD (posM ring ((1 : Int) + ((0 : Nat) : Int))) []) _ _ _ = none
    rw [e3, hsD _ e4]
    exact hfz _ _ _
end Go.Proofs.YtanjfjiaheghcaaGreatDoor
