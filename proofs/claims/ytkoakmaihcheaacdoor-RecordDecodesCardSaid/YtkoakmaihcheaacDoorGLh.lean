/- Slices that own their block, slices that are read; append, string and bytes. -/
import Derived.Test.YtkoakmaihcheaacDoorGLg
namespace Go.GL
open Go

/-- The slice (a, n, cap) reads as these cells. -/
def readS (a : Option Addr) (n size : Nat) (cs : List Value) : Assn := fun h =>
  cs.length = n * size ∧ ((a = none ∧ n = 0) ∨ ∃ b off, a = some ⟨b, off, none⟩ ∧ cellsAt b off cs h)
theorem up_readS (a : Option Addr) (n size : Nat) (cs : List Value) : Up (readS a n size cs) := fun h k le ⟨e, x⟩ => ⟨e, x.imp id fun ⟨b, off, e, c⟩ => ⟨b, off, e, up_cellsAt _ _ _ h k le c⟩⟩
/-- The slice (a, n, cap), whose block is its own, holds these cells. -/
def ownS (a : Option Addr) (n cap : Nat) (T : TypeId) (size : Nat) (cs : List Value) : Assn := fun h =>
  cs.length = n * size ∧ n ≤ cap ∧ ((a = none ∧ cap = 0) ∨ ∃ b pre post, a = some ⟨b, pre.length, none⟩ ∧ cap * size ≤ cs.length + post.length ∧ blk b (pre ++ cs ++ post) T h)
theorem cells_mid {b : Nat} {pre cs post : List Value} {T : TypeId} {h : Hp} (x : blk b (pre ++ cs ++ post) T h) : cellsAt b pre.length cs h := by
  obtain ⟨fr, hb, _⟩ := x
  refine ⟨_, T, fr, hb, fun i v hi => ?_⟩
  have hlt : i < cs.length := (List.getElem?_eq_some_iff.1 hi).1
  simp only [List.getElem?_toArray]
  rw [List.append_assoc, List.getElem?_append_right (by omega), List.getElem?_append_left (by omega)]
  simpa using hi
theorem read_of_own {a : Option Addr} {n cap : Nat} {T : TypeId} {size : Nat} {cs : List Value} {h : Hp} (x : ownS a n cap T size cs h) : readS a n size cs h := by
  obtain ⟨e, le, ⟨rfl, rfl⟩ | ⟨b, pre, post, rfl, _, x⟩⟩ := x
  · exact ⟨e, .inl ⟨rfl, by omega⟩⟩
  · exact ⟨e, .inr ⟨b, _, rfl, cells_mid x⟩⟩
theorem up_ownS (a : Option Addr) (n cap : Nat) (T : TypeId) (size : Nat) (cs : List Value) : Up (ownS a n cap T size cs) := fun h k le ⟨e, l, x⟩ =>
  ⟨e, l, x.imp id fun ⟨b, pre, post, e, c, y⟩ => ⟨b, pre, post, e, c, up_blk _ _ _ h k le y⟩⟩
theorem Ent.own {L : List Assn} {a : Option Addr} {n cap : Nat} {T : TypeId} {size : Nat} {cs : List Value} (m : ownS a n cap T size cs ∈ L) : Ent L (readS a n size cs) :=
  Ent.mem m (up_ownS _ _ _ _ _ _) fun _ x => read_of_own x
theorem ownS_nil (T : TypeId) (size : Nat) (h : Hp) : ownS none 0 0 T size [] h := ⟨by simp, Nat.le_refl _, .inl ⟨rfl, rfl⟩⟩

theorem Imp.nilS {L : List Assn} (T : TypeId) (size : Nat) : Imp L (ownS none 0 0 T size [] :: L) := fun h s => ⟨Hp.empty, h, fun _ => .inl rfl, by funext b; simp [Hp.join, Hp.empty], ownS_nil _ _ _, s⟩
theorem setOne_lt {c : List Value} {n : Nat} (v : Value) (h : n < c.length) : setOne c n v = some (c.set n v) := by
  induction c generalizing n with
  | nil => simp at h
  | cons x r ih =>
    cases n with
    | zero => rfl
    | succ n => simp only [setOne, ih (by simpa using h), List.set_cons_succ]
theorem setMany_mid : ∀ (vs pre old post : List Value), old.length = vs.length → setMany (pre ++ old ++ post) pre.length vs = some (pre ++ vs ++ post)
  | [], pre, old, post, h => by
    have : old = [] := List.length_eq_zero_iff.1 h
    subst this; rfl
  | v :: vs, pre, [], post, h => by simp at h
  | v :: vs, pre, o :: old, post, h => by
    have h1 : setOne (pre ++ o :: old ++ post) pre.length v = some (pre ++ v :: old ++ post) := by
      rw [setOne_lt _ (by simp)]
      simp
    have h2 := setMany_mid vs (pre ++ [v]) old post (by simpa using h)
    simp only [List.length_append, List.length_singleton, List.append_assoc, List.cons_append, List.nil_append] at h2
    simp only [List.append_assoc, List.cons_append] at h1
    simp only [setMany, List.append_assoc, List.cons_append, h1]
    exact h2

/-- Cells of a slice that is read are loaded. -/
theorem run_firstCells {P : Program} {w : World} {a : Option Addr} {n size c : Nat} {cs : List Value} (h : readS a n size cs (hpOf w)) : (Builtin.firstCells size n (.slice a n c)).run P w = .ok cs.toArray w := by
  obtain ⟨e, ⟨rfl, rfl⟩ | ⟨b, off, rfl, hc⟩⟩ := h
  · have : cs = [] := List.length_eq_zero_iff.1 (by simpa using e)
    subst this
    simp [Builtin.firstCells]
  · have := run_cells (P := P) hc cs.length 0 #[] (by omega)
    simp only [List.drop_zero, Array.empty_append] at this
    simp only [Builtin.firstCells, loadCells, ← e, this]
theorem nextcap_le (need old : Nat) (h : old < need) : Builtin.nextslicecap need old ≤ 2 * need := by
  unfold Builtin.nextslicecap
  split
  · omega
  · split
    · omega
    · have key : ∀ (r c : Nat), c ≤ 2 * need → Builtin.growBy need r c ≤ 2 * need := by
        intro r
        induction r with
        | zero => intro c hc; exact hc
        | succ r ih =>
          intro c hc
          unfold Builtin.growBy
          split
          · exact hc
          · exact ih _ (by omega)
      exact key _ _ (by omega)

section
variable {G : Ctx} {P : Program}
/-- What append is told to append: so many elements, these cells. -/
def Appends (P : Program) (t2 : TypeId) (y : Value) (m size : Nat) (ds : List Value) (w : World) : Prop :=
  ((∃ e, P.underlying t2 = some (.slice e)) ∨ P.underlying t2 = some .string) ∧ ds.length = m * size ∧ (Builtin.lenOf y).run P w = .ok m w ∧ (Builtin.firstCells size m y).run P w = .ok ds.toArray w
theorem run_append {T : Tab} (hT : T.ok P) {t t2 e ty : TypeId} {ti tsl : TI} {a : Option Addr} {n cap m : Nat} {cs ds : List Value} {y : Value} {F : List Assn} {w : World}
    (ht : T.find t = some tsl) (htd : tsl.desc = .slice e) (hte : T.find e = some ti) (hs : Sat (ownS a n cap e ti.size cs :: F) w)
    (hy : ∀ w', hpOf w' = hpOf w → Appends P t2 y m ti.size ds w') (hone : allOne ds = true) (hb : (n + m) * ti.bytes ≤ 140737488355328) (hmax : n + m ≤ 9223372036854775807) :
    ∃ a' cap' w', (Builtin.append_ #[t, t2] ty #[.slice a n cap, y]).run P w = .ok (.slice a' (n + m) cap') w' ∧ Sat (ownS a' (n + m) cap' e ti.size (cs ++ ds) :: F) w' := by
  have eT := Tab.find_ok hT ht
  have eE := Tab.find_ok hT hte
  have hu : P.underlying t = some (.slice e) := htd ▸ eT.desc
  obtain ⟨ht2, hlen, hl, hf⟩ := hy w rfl
  obtain ⟨h1, h2, d, e', hown, rest⟩ := hs
  obtain ⟨hcl, hle, hown⟩ := hown
  by_cases hroom : n + m ≤ cap
  · -- there is room
    rcases hown with ⟨rfl, rfl⟩ | ⟨b, pre, post, rfl, hcap, hblk⟩
    · have hn : n = 0 := by omega
      have hm : m = 0 := by omega
      subst hn hm
      have hds : ds = [] := List.length_eq_zero_iff.1 (by simpa using hlen)
      have hcs : cs = [] := List.length_eq_zero_iff.1 (by simpa using hcl)
      subst hds hcs
      refine ⟨none, 0, w, ?_, ⟨h1, h2, d, e', ⟨by simp, Nat.le_refl _, .inl ⟨rfl, rfl⟩⟩, rest⟩⟩
      rcases ht2 with ⟨e2, ht2⟩ | ht2 <;> simp [Builtin.append_, run_underlying hu, run_underlying ht2, run_size eE, hl, hf]
    · have hpost : ds.length ≤ post.length := by
        have : (n + m) * ti.size ≤ cap * ti.size := Nat.mul_le_mul_right _ hroom
        rw [Nat.add_mul] at this
        omega
      have hs' : Sat (blk b (pre ++ cs ++ post) e :: F) w := ⟨h1, h2, d, e', hblk, rest⟩
      have hsplit : pre ++ cs ++ post = (pre ++ cs) ++ post.take ds.length ++ post.drop ds.length := by simp
      have hset := setMany_mid ds (pre ++ cs) (post.take ds.length) (post.drop ds.length) (by simp [hpost])
      rw [← hsplit] at hset
      obtain ⟨w', r, s⟩ := run_stores (P := P) ds (pre ++ cs).length 0 (pre ++ cs ++ post) (pre ++ cs ++ ds ++ post.drop ds.length) _ _ w (allOne_mem hone) hset (.here _ _ _ _ _) hs'
      refine ⟨some ⟨b, pre.length, none⟩, cap, w', ?_, ?_⟩
      · have hadd : (⟨b, pre.length, none⟩ : Addr).add (n * ti.size) = ⟨b, (pre ++ cs).length, none⟩ := by rw [addr_add, ← hcl]; simp
        have r' := r
        simp only [List.length_append] at r'
        rcases ht2 with ⟨e2, ht2⟩ | ht2 <;> simp [Builtin.append_, run_underlying hu, run_underlying ht2, run_size eE, hl, hf, hroom, hadd, r']
      · refine stars_head_mono (A := blk b (pre ++ cs ++ ds ++ post.drop ds.length) e) (fun k hk => ?_) s
        refine ⟨by rw [List.length_append, hcl, hlen, Nat.add_mul], hroom, .inr ⟨b, pre, post.drop ds.length, rfl, ?_, by rw [← List.append_assoc]; exact hk⟩⟩
        simp only [List.length_append, List.length_drop]; omega
  · -- a new array
    have hro : readS a n ti.size cs (hpOf w) := up_readS _ _ _ _ _ _ (by rw [e']; exact Hp.le_join_left _ _) (read_of_own ⟨hcl, hle, hown⟩)
    have hcapb : ¬ (Builtin.nextslicecap (n + m) cap * ti.bytes > 2 ^ 48) := by
      have h1 := nextcap_le (n + m) cap (by omega)
      have h2 : Builtin.nextslicecap (n + m) cap * ti.bytes ≤ 2 * (n + m) * ti.bytes := Nat.mul_le_mul_right _ h1
      rw [Nat.mul_assoc] at h2
      omega
    have hmax' : ¬ (((n + m : Nat) : Int) > IntKind.i64.max) := by
      simp [IntKind.max, IntKind.signed, IntKind.bits]; omega
    obtain ⟨x, hx, hinfo, hxs, hxb, hxz, _⟩ := run_info eE w
    have hinfo' : ∀ w', (typeInfo e).run P w' = .ok x w' := fun w' => by obtain ⟨x', hx', h', _⟩ := run_info eE w'; rw [hx] at hx'; cases hx'; exact h'
    have hmax2 : ¬ (9223372036854775807 < (n : Int) + (m : Int)) := by omega
    have hw1 : hpOf w.drew = hpOf w := rfl
    have hfo : (Question.appendCap (n + m) cap e).forced = false := rfl
    obtain ⟨cap', hcap', hge⟩ : ∃ cap', (Question.appendCap (n + m) cap e).cut (w.tape w.drawn (Question.appendCap (n + m) cap e)) = cap' ∧ n + m ≤ cap' := ⟨_, rfl, by simp only [Question.cut]; omega⟩
    obtain ⟨_, _, _, hf1⟩ := hy w.drew hw1
    have hro1 : readS a n ti.size cs (hpOf w.drew) := hro
    have hs1 : Sat F w.drew := by unfold Sat; rw [hw1, e']; exact stars_mono (Hp.le_join_right d) rest
    have hzs : (Builtin.zeroCells (zeroOf ti).cells (cap' - (n + m))).size = (cap' - (n + m)) * ti.size := by
      simp [Builtin.zeroCells, eE.zcells, eE.zero]
    have hnew := Sat.new hs1 (cs ++ ds ++ (Builtin.zeroCells (zeroOf ti).cells (cap' - (n + m))).toList) e
    refine ⟨some ⟨w.drew.heap.size, 0, none⟩, cap', _, ?_, stars_head_mono (fun k hk => ⟨by rw [List.length_append, hcl, hlen, Nat.add_mul], hge, .inr ⟨_, [], (Builtin.zeroCells (zeroOf ti).cells (cap' - (n + m))).toList, rfl, ?_, by rw [List.nil_append]; exact hk⟩⟩) hnew⟩
    · have earr : cs.toArray ++ (ds.toArray ++ Builtin.zeroCells (zeroOf ti).cells (cap' - (n + m))) = (cs ++ (ds ++ (Builtin.zeroCells (zeroOf ti).cells (cap' - (n + m))).toList)).toArray := by
        apply Array.ext'; simp
      rcases ht2 with ⟨e2, ht2⟩ | ht2 <;>
        simp [Builtin.append_, run_underlying hu, run_underlying ht2, run_size eE, hl, hroom, hinfo', hxb, hmax2, hcapb, hfo, hcap', hf1, run_firstCells hro1, run_zero eE, newRow, earr] <;> rfl
    · have e1 : (Builtin.zeroCells (zeroOf ti).cells (cap' - (n + m))).toList.length = (cap' - (n + m)) * ti.size := by rw [← hzs]; exact Array.length_toList
      rw [e1, List.length_append, hcl, hlen, ← Nat.add_mul, ← Nat.add_mul]
      exact Nat.mul_le_mul_right _ (by omega)
theorem appends_slice {P : Program} {t2 e : TypeId} (hu : P.underlying t2 = some (.slice e)) {a : Option Addr} {m c size : Nat} {ds : List Value} {w : World} (h : readS a m size ds (hpOf w)) : Appends P t2 (.slice a m c) m size ds w :=
  ⟨.inl ⟨e, hu⟩, h.1, by simp [Builtin.lenOf], run_firstCells h⟩
def byteV (b : UInt8) : Value := .int .u8 b.toNat
def strCells (s : ByteArray) : List Value := s.data.toList.map byteV
theorem appends_string {P : Program} {t2 : TypeId} (hu : P.underlying t2 = some .string) (s : ByteArray) (w : World) : Appends P t2 (.string s) s.size 1 (strCells s) w := by
  refine ⟨.inr hu, by simp [strCells], by simp [Builtin.lenOf], ?_⟩
  simp only [Builtin.firstCells, ByteArray.extract_zero_size, Sem.run_pure]
  congr 1
  apply Array.ext'
  simp [strCells, byteV]

section
variable {N : Nat} {env : Env} {L : List Assn} {o : Oper} {post : Env → List Assn → Prop} {d : Nat}
/-- a type's size and bytes -/
def szL : TI → Option (Nat × Nat)
  | ⟨_, s, b, _, _, _⟩ => some (s, b)
theorem szL_eq {t : TI} {s b : Nat} (h : szL t = some (s, b)) : t.size = s ∧ t.bytes = b := by cases t; simp only [szL, Option.some.injEq, Prod.mk.injEq] at h; exact h
/-- append(s, y...), s owning its block, y another slice. -/
theorem OP.append {x y : Operand} {t t2 e e2 : TypeId} {ti tsl tsl2 : TI} {a a2 : Option Addr} {n cap m c2 sz by_ : Nat} {cs ds : List Value} {F : List Assn} (ho : o.op = .call ⟨.builtin .append, #[x, y], #[t, t2]⟩)
    (hx : rd none env x = some (none, .slice a n cap)) (hy : rd none env y = some (none, .slice a2 m c2)) (ht : G.T.find t = some tsl) (htd : tsl.desc = .slice e) (hte : G.T.find e = some ti) (hsz : szL ti = some (sz, by_)) (ht2 : G.T.find t2 = some tsl2) (htd2 : tsl2.desc = .slice e2)
    (hL : Imp L (ownS a n cap e sz cs :: F)) (hr : Ent L (readS a2 m sz ds)) (hone : allOne ds = true) (hb : (n + m) * by_ ≤ 140737488355328) (hmax : n + m ≤ 9223372036854775807)
    (hd : o.dst = some d) (hN : Nat.blt d N = true) (h : ∀ a' cap', post ((d, .val (.slice a' (n + m) cap')) :: env) (ownS a' (n + m) cap' e sz (cs ++ ds) :: F)) : OP G N o env L post := .mk fun ac w ha hs => by
  obtain ⟨e1, e2⟩ := szL_eq hsz
  have hu2 : G.P.underlying t2 = some (.slice _) := htd2 ▸ (Tab.find_ok G.ok ht2).desc
  obtain ⟨a', cap', w', r, s⟩ := run_append (ty := o.type) (y := .slice a2 m c2) (t2 := t2) G.ok ht htd hte (e1.symm ▸ hL.sat hs) (fun w' e => appends_slice hu2 (e1.symm ▸ e ▸ hr _ hs)) hone (e2.symm ▸ hb) hmax
  unfold Oper.wp
  have : (execOp ac.eval o).run G.P w = .ok (.value (.slice a' (n + m) cap')) w' := by
    rw [execOp, ho]
    simp only [resolve, Sem.run_bind, Sem.run_pure, Result.andThen_ok, invoke, builtin, List.map_toArray, List.map_cons, List.map_nil, rd_plain hx ha, rd_plain hy ha, r]
  rw [this]
  simp only [Oper.upon, hd]
  rw [e1] at s
  exact ⟨_, _, ha.put hN _, s, h a' cap'⟩
theorem OP.appendStr {x y : Operand} {t t2 e : TypeId} {ti tsl tsl2 : TI} {a : Option Addr} {n cap : Nat} {cs : List Value} {sv : ByteArray} {F : List Assn} (ho : o.op = .call ⟨.builtin .append, #[x, y], #[t, t2]⟩)
    (hx : rd none env x = some (none, .slice a n cap)) (hy : rd none env y = some (none, .string sv)) (ht : G.T.find t = some tsl) (htd : tsl.desc = .slice e) (hte : G.T.find e = some ti) (hsz : ti.size = 1) (hby : ti.bytes = 1) (ht2 : G.T.find t2 = some tsl2) (htd2 : tsl2.desc = .string)
    (hL : Imp L (ownS a n cap e 1 cs :: F)) (hb : n + sv.size ≤ 140737488355328)
    (hd : o.dst = some d) (hN : Nat.blt d N = true) (h : ∀ a' cap', post ((d, .val (.slice a' (n + sv.size) cap')) :: env) (ownS a' (n + sv.size) cap' e 1 (cs ++ strCells sv) :: F)) : OP G N o env L post := .mk fun ac w ha hs => by
  have hu2 : G.P.underlying t2 = some .string := htd2 ▸ (Tab.find_ok G.ok ht2).desc
  have hone : allOne (strCells sv) = true := by
    unfold strCells
    generalize sv.data.toList = l
    induction l with
    | nil => rfl
    | cons x r ih => simpa [allOne, one, byteV] using ih
  obtain ⟨a', cap', w', r, s⟩ := run_append (ty := o.type) (y := .string sv) (t2 := t2) (m := sv.size) (ds := strCells sv) (cs := cs) G.ok ht htd hte (by rw [hsz]; exact hL.sat hs) (fun w' _ => by rw [hsz]; exact appends_string hu2 sv w') hone (by rw [hby]; omega) (by omega)
  unfold Oper.wp
  have : (execOp ac.eval o).run G.P w = .ok (.value (.slice a' (n + sv.size) cap')) w' := by
    rw [execOp, ho]
    simp only [resolve, Sem.run_bind, Sem.run_pure, Result.andThen_ok, invoke, builtin, List.map_toArray, List.map_cons, List.map_nil, rd_plain hx ha, rd_plain hy ha, r]
  rw [this]
  simp only [Oper.upon, hd]
  rw [hsz] at s
  exact ⟨_, _, ha.put hN _, s, h a' cap'⟩
end
end
end Go.GL
