/- Contracts of functions of the given program, and plain laws: parts of the proofs of laws. -/
import Derived.Test.YtkoakmaihcheaabDoorZMB1
import Derived.Laws.Externs
import Derived.Stop.Asserts
import Derived.Test.YtkoakmaihcheaabDoorProg
import Derived.KernelRfl
/- Comparing structs; a quiet operation of a drawn region by its own run. -/
namespace Go.GL
open Go
/-- one field of one cell, of a plain type -/
def eqF (T : Tab) (f : Field) (xs ys : List Value) : Option Bool :=
  match T.find f.type with
  | some ⟨.int _, _, _, _, false, _⟩ => match xs[f.offset]?, ys[f.offset]? with
    | some (.int .i64 a), some (.int .i64 b) => some (decide (a = b))
    | some (.int .u64 a), some (.int .u64 b) => some (decide (a = b))
    | some (.int .u32 a), some (.int .u32 b) => some (decide (a = b))
    | some (.int .u8 a), some (.int .u8 b) => some (decide (a = b))
    | _, _ => none
  | some ⟨.string, _, _, _, false, _⟩ => match xs[f.offset]?, ys[f.offset]? with
    | some (.string a), some (.string b) => some (decide (a = b))
    | _, _ => none
  | some ⟨.bool, _, _, _, false, _⟩ => match xs[f.offset]?, ys[f.offset]? with
    | some (.bool a), some (.bool b) => some (a == b)
    | _, _ => none
  | _ => none
def eqFs (T : Tab) (xs ys : List Value) : List Field → Option Bool
  | [] => some true
  | f :: r => match eqF T f xs ys, eqFs T xs ys r with
    | some a, some b => some (a && b)
    | _, _ => none
section
variable {P : Program} {t : TypeId} {w : World} (d : Nat)
theorem equalIn_int {k0 : IntKind} (h : P.underlying t = some (.int k0)) (k : IntKind) (a b : Int) : (Op.equalIn (d + 1) t (.int k a) (.int k b)).run P w = .ok (decide (a = b)) w := by
  simp [Op.equalIn, run_underlying h]; rfl
theorem equalIn_str (h : P.underlying t = some .string) (a b : ByteArray) : (Op.equalIn (d + 1) t (.string a) (.string b)).run P w = .ok (decide (a = b)) w := by
  have e : (a == b) = decide (a = b) := by
    cases a with | mk x => cases b with | mk y =>
      have : ((⟨x⟩ : ByteArray) == ⟨y⟩) = (x == y) := rfl
      rw [this, Bool.eq_iff_iff, beq_iff_eq, decide_eq_true_eq]
      exact ⟨fun h => by rw [h], fun h => by cases h; rfl⟩
  simp [Op.equalIn, run_underlying h, e]
theorem run_part (f : Field) {i : TI} (e : TIOk P f.type i) (ha : i.agg = false) {xs : List Value} {v : Value} (hx : xs[f.offset]? = some v) : (part f.type xs.toArray f.offset).run P w = .ok v w := by
  have ha' : (isAgg f.type).run P w = .ok false w := by rw [run_isAgg e, ha]
  simp [part, ha', hx]
end
theorem eqF_ok {P : Program} {T : Tab} (hT : T.ok P) {f : Field} {xs ys : List Value} {b : Bool} (d : Nat) (h : eqF T f xs ys = some b) (w : World) :
    ∃ x y, (part f.type xs.toArray f.offset).run P w = .ok x w ∧ (part f.type ys.toArray f.offset).run P w = .ok y w ∧ (Op.equalIn (d + 1) f.type x y).run P w = .ok b w := by
  unfold eqF at h
  split at h
  · rename_i ht
    have e := Tab.find_ok hT ht
    split at h <;> first | (cases h; done) | (rename_i hx hy; cases h; exact ⟨_, _, run_part f e rfl hx, run_part f e rfl hy, equalIn_int d e.desc _ _ _⟩)
  · rename_i ht
    have e := Tab.find_ok hT ht
    split at h <;> first | (cases h; done) | (rename_i hx hy; cases h; exact ⟨_, _, run_part f e rfl hx, run_part f e rfl hy, equalIn_str d e.desc _ _⟩)
  · rename_i ht
    have e := Tab.find_ok hT ht
    split at h <;> first | (cases h; done) | (rename_i hx hy; cases h; exact ⟨_, _, run_part f e rfl hx, run_part f e rfl hy, equalIn_bool d e.desc _ _⟩)
  · cases h
theorem run_eqAgg {P : Program} {T : Tab} (hT : T.ok P) {t : TypeId} {fs : Array Field} {ti : TI} {xs ys : List Value} {b : Bool} (d : Nat) (ht : T.find t = some ti) (hdesc : ti.desc = .struct fs) (hst : P.stoodInHeld t = false) (hn : (fs.toList.all fun f => f.name != "_") = true) (hb : eqFs T xs ys fs.toList = some b) (w : World) :
    (Op.equalIn (d + 2) t (.agg xs.toArray) (.agg ys.toArray)).run P w = .ok b w := by
  have e := Tab.find_ok hT ht
  have hd := e.desc
  rw [hdesc] at hd
  unfold Op.equalIn
  simp only [Sem.run_bind, run_underlying hd, Result.andThen_ok, run_program, hst, Bool.false_eq_true, if_false]
  rw [← Array.forIn_toList]
  generalize fs.toList = l at *
  induction l generalizing b with
  | nil =>
    simp only [eqFs, Option.some.injEq] at hb
    subst hb
    simp
  | cons f r ih =>
    simp only [eqFs] at hb
    split at hb
    · rename_i a a' ha ha'
      simp only [Option.some.injEq] at hb
      subst hb
      obtain ⟨x, y, h1, h2, h3⟩ := eqF_ok hT d ha w
      simp only [List.all_cons, Bool.and_eq_true, bne_iff_ne, ne_eq] at hn
      simp only [List.forIn_cons, ne_eq, hn.1, not_false_eq_true, if_true, Sem.run_bind, h1, h2, h3, Result.andThen_ok]
      cases a with
      | false => simp
      | true =>
        have := ih hn.2 ha'
        simpa using this
    · cases hb
section
variable {G : Ctx} {N : Nat} {env : Env} {L S : List Assn} {k : Kont} {n : Nat} {fuel : Nat} {listed : Array Bool} {hd : Bool} {l : List Oper} {o : Oper} {post : Env → List Assn → Prop} {d : Nat}
/-- what a comparison of structs comes to -/
structure EqAgg (G : Ctx) (env : Env) (op : Op) (b : Bool) : Prop where
  run : ∀ N a w (o : Oper), o.op = op → Agree N env a → (execOp a.eval o).run G.P w = .ok (.value (.bool b)) w
theorem EqAgg.neq {t t2 : TypeId} {x y : Operand} {fs : Array Field} {ti : TI} {xs ys : List Value} {b : Bool} (hx : rd none env x = some (none, .agg xs.toArray)) (hy : rd none env y = some (none, .agg ys.toArray))
    (ht : G.T.find t = some ti) (hdesc : ti.desc = .struct fs) (hst : G.P.stoodInHeld t = false) (hgt : G.P.eqGuardType G.P.depth t = false) (hn : (fs.toList.all fun f => f.name != "_") = true) (hb : eqFs G.T xs ys fs.toList = some b) : EqAgg G env (.binOp .neq t x y t2) (!b) := ⟨fun N a w o ho ha => by
  rw [execOp, ho]
  refine val_run ?_
  have h1 : (eqGuard .neq t x y (.agg xs.toArray) (.agg ys.toArray)).run G.P w = .ok () w := by simp [eqGuard, hgt]
  have h2 := bin_ne rfl (run_eqAgg G.ok 9998 ht hdesc hst hn hb w)
  simp only [rd_plain hx ha, rd_plain hy ha, Sem.run_bind, h1, Result.andThen_ok, h2]⟩
theorem EqAgg.eql {t t2 : TypeId} {x y : Operand} {fs : Array Field} {ti : TI} {xs ys : List Value} {b : Bool} (hx : rd none env x = some (none, .agg xs.toArray)) (hy : rd none env y = some (none, .agg ys.toArray))
    (ht : G.T.find t = some ti) (hdesc : ti.desc = .struct fs) (hst : G.P.stoodInHeld t = false) (hgt : G.P.eqGuardType G.P.depth t = false) (hn : (fs.toList.all fun f => f.name != "_") = true) (hb : eqFs G.T xs ys fs.toList = some b) : EqAgg G env (.binOp .eql t x y t2) b := ⟨fun N a w o ho ha => by
  rw [execOp, ho]
  refine val_run ?_
  have h1 : (eqGuard .eql t x y (.agg xs.toArray) (.agg ys.toArray)).run G.P w = .ok () w := by simp [eqGuard, hgt]
  have h2 := bin_eq rfl (run_eqAgg G.ok 9998 ht hdesc hst hn hb w)
  simp only [rd_plain hx ha, rd_plain hy ha, Sem.run_bind, h1, Result.andThen_ok, h2]⟩
theorem eqF_self {T : Tab} {f : Field} {xs : List Value} {b : Bool} (h : eqF T f xs xs = some b) : b = true := by
  unfold eqF at h
  split at h
  · generalize xs[f.offset]? = o at h
    split at h <;> first | (cases h; done) | skip
    all_goals (cases h; simp_all)
  · generalize xs[f.offset]? = o at h
    split at h <;> first | (cases h; done) | skip
    all_goals (cases h; simp_all)
  · generalize xs[f.offset]? = o at h
    split at h <;> first | (cases h; done) | skip
    all_goals (cases h; simp_all)
  · cases h
theorem eqFs_self {T : Tab} {xs : List Value} : ∀ {fs : List Field} {b : Bool}, eqFs T xs xs fs = some b → b = true
  | [], b, h => by cases h; rfl
  | f :: r, b, h => by
    simp only [eqFs] at h
    split at h
    · rename_i a a' ha ha'
      cases h
      rw [eqF_self ha, eqFs_self ha']; rfl
    · cases h
theorem EqAgg.neqSelf {t t2 : TypeId} {x y : Operand} {fs : Array Field} {ti : TI} {xs : List Value} (hx : rd none env x = some (none, .agg xs.toArray)) (hy : rd none env y = some (none, .agg xs.toArray))
    (ht : G.T.find t = some ti) (hdesc : ti.desc = .struct fs) (hst : G.P.stoodInHeld t = false) (hgt : G.P.eqGuardType G.P.depth t = false) (hn : (fs.toList.all fun f => f.name != "_") = true) (hb : (eqFs G.T xs xs fs.toList).isSome = true) : EqAgg G env (.binOp .neq t x y t2) false := by
  obtain ⟨b, hb⟩ := Option.isSome_iff_exists.1 hb
  have := EqAgg.neq (t2 := t2) hx hy ht hdesc hst hgt hn hb
  rw [eqFs_self hb] at this
  exact this
theorem EqAgg.eqlSelf {t t2 : TypeId} {x y : Operand} {fs : Array Field} {ti : TI} {xs : List Value} (hx : rd none env x = some (none, .agg xs.toArray)) (hy : rd none env y = some (none, .agg xs.toArray))
    (ht : G.T.find t = some ti) (hdesc : ti.desc = .struct fs) (hst : G.P.stoodInHeld t = false) (hgt : G.P.eqGuardType G.P.depth t = false) (hn : (fs.toList.all fun f => f.name != "_") = true) (hb : (eqFs G.T xs xs fs.toList).isSome = true) : EqAgg G env (.binOp .eql t x y t2) true := by
  obtain ⟨b, hb⟩ := Option.isSome_iff_exists.1 hb
  have := EqAgg.eql (t2 := t2) hx hy ht hdesc hst hgt hn hb
  rw [eqFs_self hb] at this
  exact this
theorem OP.eqAgg {b : Bool} (e : EqAgg G env o.op b) (hd : o.dst = some d) (hN : Nat.blt d N = true) (h : post ((d, .val (.bool b)) :: env) L) : OP G N o env L post :=
  .run (fun a w ha _ => e.run N a w o rfl ha) hd hN h
theorem WH.eqAgg (i : Nat) {b : Bool} (hi : l.toArray[i]? = some o) (hg : o.guard = none) (hs : Region.noSelect l.toArray = true) (hf : Region.free .any l.toArray listed i = true) (hr : (Region.ready .any l.toArray listed).contains i = true)
    (hk : ∀ c env L, ¬ k (.panic c) env L) (hH : (hd || Nat.ble n i) = true) (e : EqAgg G env o.op b) (hdst : o.dst = some d) (hN : Nat.blt d N = true)
    (h : WH G N l.toArray n S hd fuel (listed.setIfInBounds i true) ((d, .val (.bool b)) :: env) L k) : WH G N l.toArray n S hd (fuel + 1) listed env L k := .mk fun ht a w ha hsat hS hcl => by
  have hri : i ∈ Region.ready .any l.toArray listed := by simpa using hr
  refine wpB_first (R := fun _ => True) hi (Region.noSelect_spec hs) (fun c a w => noPanic hk c a w _ _) ht (.inl fun _ => trivial) fuel listed a w hcl (Region.free_spec hi hf) hri
    (.inl ⟨by simp [Region.wanted, hg], fun w _ => e.run N a w o rfl ha⟩) trivial (fun hin => ?_) ?_
  · cases hd with
    | true => exact hS rfl
    | false => have := Nat.le_of_ble_eq_true (by simpa using hH); omega
  · rw [hdst]; exact h ht _ w (ha.put hN _) hsat hS (hcl.set hri)
end
end Go.GL
/- Slices cut; bytes. -/
namespace Go.GL
open Go
theorem cutA_none (cap l size : Nat) : cutA none cap l size = none := by unfold cutA; split <;> rfl
theorem readS_cut {a : Option Addr} {n size i cap : Nat} {cs : List Value} {h : Hp} (x : readS a n size cs h) (hi : i ≤ n) (hc : n ≤ cap) : readS (cutA a cap i size) (n - i) size (cs.drop (i * size)) h := by
  obtain ⟨e, ⟨rfl, rfl⟩ | ⟨b, off, rfl, hcell⟩⟩ := x
  · refine ⟨by rw [List.length_drop, e, Nat.sub_mul], .inl ⟨cutA_none _ _ _, by omega⟩⟩
  · refine ⟨by rw [List.length_drop, e, Nat.sub_mul], .inr ?_⟩
    unfold cutA
    split
    · rename_i hci
      have : i = n := by omega
      subst this
      rw [List.drop_eq_nil_of_le (by omega)]
      obtain ⟨c, T, fr, hb, _⟩ := hcell
      exact ⟨b, off, rfl, c, T, fr, hb, fun i v hi => by simp at hi⟩
    · refine ⟨b, off + i * size, by simp [addr_add], ?_⟩
      obtain ⟨c, T, fr, hb, hx⟩ := hcell
      refine ⟨c, T, fr, hb, fun j v hj => ?_⟩
      rw [List.getElem?_drop] at hj
      have := hx _ _ hj
      rwa [← Nat.add_assoc] at this
theorem readS_take {a : Option Addr} {n size m : Nat} {cs : List Value} {h : Hp} (x : readS a n size cs h) (hm : m ≤ n) : readS a m size (cs.take (m * size)) h := by
  have hle : m * size ≤ n * size := Nat.mul_le_mul_right _ hm
  obtain ⟨e, ⟨rfl, rfl⟩ | ⟨b, off, rfl, hcell⟩⟩ := x
  · exact ⟨by rw [List.length_take, e]; omega, .inl ⟨rfl, by omega⟩⟩
  · refine ⟨by rw [List.length_take, e]; omega, .inr ⟨b, off, rfl, ?_⟩⟩
    obtain ⟨c, T, fr, hb, hx⟩ := hcell
    refine ⟨c, T, fr, hb, fun j v hj => ?_⟩
    rw [List.getElem?_take] at hj
    split at hj
    · exact hx _ _ hj
    · cases hj
/-- bytes as a string -/
def ba (l : List UInt8) : ByteArray := ⟨l.toArray⟩
theorem strCells_ba (l : List UInt8) : strCells (ba l) = l.map byteV := by simp [strCells, ba]
theorem ba_size (l : List UInt8) : (ba l).size = l.length := by simp [ba, ByteArray.size]
theorem ba_data (s : ByteArray) : ba s.data.toList = s := by cases s; simp [ba]
/-- a slice of bytes that can be read -/
def Bytes (A : Assn) (l : List UInt8) (v : Value) : Prop := ∃ a n c, v = .slice a n c ∧ n = l.length ∧ n ≤ c ∧ ∀ h, A h → readS a n 1 (l.map byteV) h
theorem flatAt {α : Type} (enc : α → List Value) (m : Nat) (he : ∀ x, (enc x).length = m) (l : List α) (k : Nat) (h : k < l.length) : enc l[k] = ((l.flatMap enc).drop (k * m)).take m := by
  induction l generalizing k with
  | nil => simp at h
  | cons c r ih =>
    cases k with
    | zero => simp [← he c]
    | succ k =>
      have e : (k + 1) * m = m + k * m := by rw [Nat.succ_mul, Nat.add_comm]
      have := ih k (by simpa using h)
      simp only [List.flatMap_cons, List.getElem_cons_succ]
      rw [this, e, ← List.drop_drop, List.drop_left' (he c)]
theorem flatGet {α : Type} (enc : α → List Value) (m : Nat) (he : ∀ x, (enc x).length = m) (l : List α) (k j : Nat) (h : k < l.length) (hj : j < m) : (l.flatMap enc)[k * m + j]? = (enc l[k])[j]? := by
  rw [flatAt enc m he l k h, List.getElem?_take, if_pos hj, List.getElem?_drop]
theorem flatLen {α : Type} (enc : α → List Value) (m : Nat) (he : ∀ x, (enc x).length = m) (l : List α) : (l.flatMap enc).length = l.length * m := by
  induction l with
  | nil => simp
  | cons a r ih => rw [List.flatMap_cons, List.length_append, he, ih, List.length_cons, Nat.succ_mul]; omega
end Go.GL
/- make, append(nil, make(..)...), an empty literal; what a slice owns, shortened. -/
namespace Go.GL
open Go
section
variable {G : Ctx} {N : Nat} {env : Env} {L : List Assn} {k : Kont} {ops : Array Oper} {rest : List Oper} {o : Oper}
/-- A guard that was passed over itself. -/
theorem WL.guardU {j t d : Nat} {want : Bool} {oj : Oper} (hg : o.guard = some (j, want)) (hj : ops[j]? = some oj) (ht : oj.dst = some t) (hq : Env.get env t = some (.val (.tuple #[]))) (hd : o.dst = some d) (hN : Nat.blt d N = true) (h : WL G N ops rest ((d, .val undef) :: env) L k) : WL G N ops (o :: rest) env L k := .mk fun a w ha hs => by
  have hw : Region.wanted o (yielded ops a.tmps) = false := by
    have := ha.at_ _ _ hq
    simp only [Slot.fits] at this
    simp only [Region.wanted, hg, yielded, hj, ht, Option.bind_some, this]
    rfl
  unfold wpList
  rw [hw, if_neg (by simp), hd]
  exact h _ w (ha.put hN _) hs
end
section
variable {G : Ctx} {N : Nat} {env : Env} {L : List Assn} {o : Oper} {post : Env → List Assn → Prop} {d : Nat}
theorem OP.newS {n : Nat} {c : List Value} {e size : Nat} (hc : c.length = n * size) (hr : ∀ a w, Agree N env a → Sat L w → ∃ w', (execOp a.eval o).run G.P w = .ok (.value (.slice (some ⟨w.heap.size, 0, none⟩) n n)) w' ∧ w'.os = w.os ∧ w'.output = w.output ∧ w'.heap = w.heap.push (.cells c.toArray e))
    (hd : o.dst = some d) (hN : Nat.blt d N = true) (h : ∀ b, post ((d, .val (.slice (some ⟨b, 0, none⟩) n n)) :: env) (ownS (some ⟨b, 0, none⟩) n n e size c :: L)) : OP G N o env L post := .mk fun a w ha hs => by
  unfold Oper.wp
  obtain ⟨w', r, h1, h2, h3⟩ := hr a w ha hs
  rw [r]
  simp only [Oper.upon, hd]
  have hs' : Sat (blk w.heap.size c e :: L) w' := by
    have := hs.new c e
    unfold Sat at *
    rw [hpOf_heap (w := { w with heap := w.heap.push (.cells c.toArray e) }) h3 h1 h2]
    exact this
  exact ⟨_, _, ha.put hN _, stars_head_mono (fun k hk => ⟨hc, Nat.le_refl _, .inr ⟨_, [], [], rfl, by simp [hc], by simpa using hk⟩⟩) hs', h _⟩
/-- make([]T, n) -/
theorem OP.makeS {t e : TypeId} {tsl ti : TI} {x y : Operand} {n : Int} {z : List Value} {sz by_ : Nat} (ho : o.op = .makeSlice t x y) (hx : rd none env x = some (none, .int .i64 n)) (hy : rd none env y = some (none, .int .i64 n))
    (ht : G.T.find t = some tsl) (htd : tsl.desc = .slice e) (hte : G.T.find e = some ti) (hsz : szL ti = some (sz, by_)) (hz : zeroL ti = some z) (h0 : 0 ≤ n) (hb : n * by_ ≤ 140737488355328) (hmax : n ≤ 9223372036854775807)
    (hd : o.dst = some d) (hN : Nat.blt d N = true) (h : ∀ b, post ((d, .val (.slice (some ⟨b, 0, none⟩) n.toNat n.toNat)) :: env) (ownS (some ⟨b, 0, none⟩) n.toNat n.toNat e sz (repL z n.toNat) :: L)) : OP G N o env L post := by
  obtain ⟨e1, e2⟩ := szL_eq hsz
  have hz' := zeroL_eq hz
  have eE := Tab.find_ok G.ok hte
  have hzl : z.length = sz := by rw [← hz', eE.zero, e1]
  refine OP.newS (c := repL z n.toNat) (size := sz) (by rw [repL_length, hzl]) (fun a w ha _ => ?_) hd hN h
  have hu : G.P.underlying t = some (.slice e) := htd ▸ (Tab.find_ok G.ok ht).desc
  obtain ⟨x', hx', hinfo, hxs, hxb, hxz, _⟩ := run_info eE w
  have hw : IntKind.i64.wrap n = n := wrap_fit (k := .i64) (by unfold Fit; omega)
  have hbig : ¬ ((x'.bytes : Int) * n > 2 ^ 48) := by rw [hxb, e2, Int.mul_comm]; omega
  have hroom : ¬ (n.toNat * x'.bytes > roomBytes) := by
    have : ((n.toNat * x'.bytes : Nat) : Int) = n * by_ := by
      rw [Int.natCast_mul, Int.toNat_of_nonneg h0, hxb, e2]
    unfold roomBytes
    omega
  have hzc : (zeroOf ti).cells = ti.zero.toArray := eE.zcells
  have hrep := rep_eq (zeroOf ti).cells n.toNat
  have hzs : (zeroOf ti).cells.size = ti.size := by rw [hzc]; simp [eE.zero]
  rw [hzs, hzc] at hrep
  simp only [hz'] at hrep
  have hlt : ¬ n < 0 := by omega
  refine ⟨{ w with heap := w.heap.push (.cells (repL z n.toNat).toArray e) }, ?_, rfl, rfl, rfl⟩
  rw [execOp, ho]
  refine val_run' ?_
  have hbig' : ¬ (281474976710656 < (x'.bytes : Int) * n) := by simpa using hbig
  have hroom' : ¬ roomBytes < n.toNat * x'.bytes := hroom
  by_cases hzero : n.toNat * ti.size = 0
  · have hnil : repL z n.toNat = [] := List.length_eq_zero_iff.1 (by rw [repL_length, hzl, ← e1]; exact hzero)
    simp [Instr.makeSlice, run_underlying hu, rd_plain hx ha, rd_plain hy ha, asInt, asIntOf, hinfo, hw, hlt, hbig', askRoom, run_size eE, hzero, hnil, newRow]
    have : (Array.map (fun _ => (default : Value)) (Array.range 0)) = #[] := by apply Array.ext'; simp
    rw [this]
  · simp [Instr.makeSlice, run_underlying hu, rd_plain hx ha, rd_plain hy ha, asInt, asIntOf, hinfo, hw, hlt, hbig', askRoom, run_size eE, hzero, run_zero eE, hzc, hz', newRow]
    rw [← hrep]
    congr 2
    congr 1
    funext i
    rw [hzl, ← e1]
    simp
/-- append(nil, make([]T, n)...) -/
theorem OP.appendZ {t t2 e : TypeId} {tsl ti ti2 : TI} {x y : Operand} {n : Int} {z : List Value} {sz by_ : Nat} {k2 : IntKind} (ho : o.op = .call ⟨.builtin .append, #[x, y], #[t, t2]⟩) (hx : rd none env x = some (none, .slice none 0 0)) (hy : rd none env y = some (none, .int .i64 n))
    (ht : G.T.find t = some tsl) (htd : tsl.desc = .slice e) (hte : G.T.find e = some ti) (hsz : szL ti = some (sz, by_)) (hz : zeroL ti = some z) (ht2 : G.T.find t2 = some ti2) (ht2d : ti2.desc = .int k2) (h0 : 0 < n) (hs1 : 0 < sz) (hb : n * by_ ≤ 70368744177664) (hmax : n ≤ 9223372036854775807)
    (hd : o.dst = some d) (hN : Nat.blt d N = true) (h : ∀ b cap, n.toNat ≤ cap → post ((d, .val (.slice (some ⟨b, 0, none⟩) n.toNat cap)) :: env) (ownS (some ⟨b, 0, none⟩) n.toNat cap e sz (repL z n.toNat) :: L)) : OP G N o env L post := .mk fun a w ha hs => by
  obtain ⟨e1, e2⟩ := szL_eq hsz
  have hz' := zeroL_eq hz
  have eE := Tab.find_ok G.ok hte
  have hzl : z.length = sz := by rw [← hz', eE.zero, e1]
  have hu : G.P.underlying t = some (.slice e) := htd ▸ (Tab.find_ok G.ok ht).desc
  have hu2 : G.P.underlying t2 = some (.int k2) := ht2d ▸ (Tab.find_ok G.ok ht2).desc
  obtain ⟨x', hx', hinfo, hxs, hxb, hxz, _⟩ := run_info eE w
  have hinfo' : ∀ w', (typeInfo e).run G.P w' = .ok x' w' := fun w' => by obtain ⟨x2, hx2, h', _⟩ := run_info eE w'; rw [hx'] at hx2; cases hx2; exact h'
  have hw : IntKind.i64.wrap n = n := wrap_fit (k := .i64) (by unfold Fit; omega)
  have hlt : ¬ n < 0 := by omega
  have hbig : ¬ (281474976710656 < n * (x'.bytes : Int)) := by rw [hxb, e2]; omega
  obtain ⟨m, rfl⟩ : ∃ m : Nat, n = m := ⟨n.toNat, by omega⟩
  have hm : 0 < m := by omega
  have hcapb : ¬ (281474976710656 < Builtin.nextslicecap m 0 * x'.bytes) := by
    have h1 := nextcap_le m 0 hm
    have h2 : Builtin.nextslicecap m 0 * x'.bytes ≤ 2 * m * x'.bytes := Nat.mul_le_mul_right _ h1
    have h3 : (m : Int) * by_ ≤ 70368744177664 := hb
    have h4 : m * x'.bytes ≤ 70368744177664 := by
      rw [hxb, e2]
      have : ((m * by_ : Nat) : Int) = (m : Int) * by_ := Int.natCast_mul m by_
      omega
    rw [Nat.mul_assoc] at h2
    omega
  have hfo : (Question.appendCap m 0 e).forced = false := rfl
  obtain ⟨cap, hcap, hge⟩ : ∃ cap, (Question.appendCap m 0 e).cut (w.tape w.drawn (Question.appendCap m 0 e)) = cap ∧ m ≤ cap := ⟨_, rfl, by simp only [Question.cut]; omega⟩
  have hzc : (zeroOf ti).cells = ti.zero.toArray := eE.zcells
  have hzero : ¬ (m * ti.size = 0) := by
    have : 0 < m * ti.size := Nat.mul_pos hm (by omega)
    omega
  have hs1 : Sat L w.drew := hs
  have hnew := Sat.new hs1 ((Builtin.zeroCells (zeroOf ti).cells m).toList ++ (Builtin.zeroCells (zeroOf ti).cells (cap - m)).toList) e
  unfold Oper.wp
  have hmi : ¬ (9223372036854775807 < (m : Int)) := by omega
  have hfc : ∀ w', (Builtin.firstCells ti.size 0 (.slice none 0 0)).run G.P w' = .ok #[] w' := fun w' => by simp [Builtin.firstCells]
  have hr : (execOp a.eval o).run G.P w = .ok (.value (.slice (some ⟨w.heap.size, 0, none⟩) m cap)) { w.drew with heap := w.heap.push (.cells ((Builtin.zeroCells (zeroOf ti).cells m).toList ++ (Builtin.zeroCells (zeroOf ti).cells (cap - m)).toList).toArray e) } := by
    rw [execOp, ho]
    have hm0 : ¬ m = 0 := by omega
    simp [resolve, invoke, builtin, rd_plain hx ha, rd_plain hy ha, Builtin.append_, run_underlying hu, run_underlying hu2, run_size eE, asInt, asIntOf, hw, hlt, hinfo', hbig, hm0, hmi, hcapb, hfo, hcap, hfc, hzero, run_zero eE, newRow]
    have earr : (Builtin.zeroCells (zeroOf ti).cells m ++ Builtin.zeroCells (zeroOf ti).cells (cap - m)) = ((Builtin.zeroCells (zeroOf ti).cells m).toList ++ (Builtin.zeroCells (zeroOf ti).cells (cap - m)).toList).toArray := by
      apply Array.ext'; simp
    rw [earr]
    rfl
  rw [hr]
  simp only [Oper.upon, hd]
  have hrep : ∀ k, (Builtin.zeroCells (zeroOf ti).cells k).toList = repL z k := fun k => by
    unfold Builtin.zeroCells
    rw [rep_eq, hzc, hz']
  rw [hrep, hrep] at *
  have h := h w.heap.size cap hge
  rw [Int.toNat_natCast] at h
  refine ⟨_, _, ha.put hN _, stars_head_mono (fun k hk => ⟨by rw [repL_length, hzl], hge, .inr ⟨_, [], repL z (cap - m), rfl, ?_, by simpa using hk⟩⟩) hnew, h⟩
  rw [repL_length, repL_length, hzl, ← Nat.add_mul]
  exact Nat.mul_le_mul_right _ (by omega)
/-- cap(s) -/
theorem OP.capS {t e : TypeId} {tsl : TI} {x : Operand} {a : Option Addr} {n c : Nat} (ho : o.op = .call ⟨.builtin .cap, #[x], #[t]⟩) (hx : rd none env x = some (none, .slice a n c)) (ht : G.T.find t = some tsl) (htd : tsl.desc = .slice e)
    (hd : o.dst = some d) (hN : Nat.blt d N = true) (h : post ((d, .val (.int .i64 c)) :: env) L) : OP G N o env L post :=
  .run (fun ac w ha _ => by
    have hu : G.P.underlying t = some (.slice e) := htd ▸ (Tab.find_ok G.ok ht).desc
    rw [execOp, ho]
    simp [resolve, invoke, builtin, rd_plain hx ha, Builtin.cap_, run_underlying hu, goInt]) hd hN h
/-- []T without elements -/
theorem OP.lit0 {t e : TypeId} {tsl ti : TI} {size : Nat} (ho : o.op = .buildSlice t 0 #[]) (ht : G.T.find t = some tsl) (htd : tsl.desc = .slice e) (hte : G.T.find e = some ti)
    (hd : o.dst = some d) (hN : Nat.blt d N = true) (h : ∀ b, post ((d, .val (.slice (some ⟨b, 0, none⟩) 0 0)) :: env) (ownS (some ⟨b, 0, none⟩) 0 0 e size [] :: L)) : OP G N o env L post := by
  have eE := Tab.find_ok G.ok hte
  refine OP.newS (c := []) (size := size) (by simp) (fun a w ha _ => ?_) hd hN h
  have hu : G.P.underlying t = some (.slice e) := htd ▸ (Tab.find_ok G.ok ht).desc
  refine ⟨{ w with heap := w.heap.push (.cells #[] e) }, ?_, rfl, rfl, rfl⟩
  rw [execOp, ho]
  refine val_run' ?_
  have : (Array.map (fun _ => (default : Value)) (Array.range 0)) = #[] := by apply Array.ext'; simp
  simp [Instr.buildSlice, run_underlying hu, run_size eE, Instr.fill, newRow, this]
/-- what a slice owns, cut at its end: the rest becomes room -/
theorem ownS_take {a : Option Addr} {n cap m size : Nat} {T : TypeId} {cs : List Value} {h : Hp} (x : ownS a n cap T size cs h) (hm : m ≤ n) : ownS a m cap T size (cs.take (m * size)) h := by
  have hle : m * size ≤ n * size := Nat.mul_le_mul_right _ hm
  obtain ⟨e, le, ⟨rfl, rfl⟩ | ⟨b, pre, post, rfl, hc, x⟩⟩ := x
  · have : m = 0 := by omega
    subst this
    exact ⟨by simp, Nat.le_refl _, .inl ⟨rfl, rfl⟩⟩
  · refine ⟨by rw [List.length_take, e]; omega, by omega, .inr ⟨b, pre, cs.drop (m * size) ++ post, rfl, ?_, ?_⟩⟩
    · rw [List.length_take, List.length_append, List.length_drop]; omega
    · rw [← List.append_assoc, List.append_assoc pre, List.take_append_drop]; exact x
theorem Imp.ownTake {a : Option Addr} {n cap m size : Nat} {T : TypeId} {cs : List Value} (hm : m ≤ n) : Imp (ownS a n cap T size cs :: L) (ownS a m cap T size (cs.take (m * size)) :: L) := fun _ s => stars_head_mono (fun _ x => ownS_take x hm) s
end
end Go.GL
/- Quiet operations of drawn regions, guarded or not, by what they come to. -/
namespace Go.GL
open Go
/-- What an operation comes to where S holds; it changes nothing. -/
structure Quiet (G : Ctx) (N : Nat) (env : Env) (S : List Assn) (o : Oper) (v : Value) : Prop where
  run : ∀ a w, Agree N env a → Sat S w → (execOp a.eval o).run G.P w = .ok (.value v) w
section
variable {G : Ctx} {N : Nat} {env : Env} {L S : List Assn} {o : Oper} {post : Env → List Assn → Prop} {d : Nat}
theorem Quiet.pure {nw : Bool} {c : Option Prop} {v : Value} (he : ev G.T nw none env o.op = some (c, v)) (hc : Holds c) : Quiet G N env S o v := ⟨fun _ w ha _ => ev_ok G.ok he hc trivial ha w⟩
theorem Quiet.load {t : TypeId} {x : Operand} {b off : Nat} {ti : TI} {v : Value} (ho : o.op = .load t x) (hx : rd none env x = some (none, .pointer (some ⟨b, off, none⟩))) (hti : G.T.find t = some ti) (hv : Loads S ti b off v) : Quiet G N env S o v :=
  ⟨fun _ _ ha hs => run_loads G.ok ho (rd_plain hx ha) hti hv hs⟩
theorem Quiet.eqAgg {b : Bool} (e : EqAgg G env o.op b) : Quiet G N env S o (.bool b) := ⟨fun a w ha _ => e.run N a w o rfl ha⟩
theorem Quiet.pickT {x y z : Operand} {v : Value} (ho : o.op = .pick x y z) (hx : rd none env x = some (none, .bool true)) (hv : rd none env y = some (none, v)) : Quiet G N env S o v :=
  ⟨fun a w ha _ => by rw [execOp, ho]; simp [rd_plain hx ha, rd_plain hv ha, asBool]⟩
theorem Quiet.pickF {x y z : Operand} {v : Value} (ho : o.op = .pick x y z) (hx : rd none env x = some (none, .bool false)) (hv : rd none env z = some (none, v)) : Quiet G N env S o v :=
  ⟨fun a w ha _ => by rw [execOp, ho]; simp [rd_plain hx ha, rd_plain hv ha, asBool]⟩
/-- string(b) -/
theorem Quiet.toStr {s t e : TypeId} {x : Operand} {a : Option Addr} {n cap : Nat} {sv : ByteArray} {tis tit tie : TI} (ho : o.op = .convert s t x) (hx : rd none env x = some (none, .slice a n cap)) (hs : G.T.find s = some tis) (hsd : tis.desc = .slice e) (ht : G.T.find t = some tit) (htd : tit.desc = .string)
    (hte : G.T.find e = some tie) (hed : tie.desc = .int .u8) (hr : Ent S (readS a n 1 (strCells sv))) : Quiet G N env S o (.string sv) :=
  ⟨fun ac w ha hsat => by
    have us : G.P.underlying s = some (.slice e) := hsd ▸ (Tab.find_ok G.ok hs).desc
    have ut : G.P.underlying t = some .string := htd ▸ (Tab.find_ok G.ok ht).desc
    have ue : G.P.underlying e = some (.int .u8) := hed ▸ (Tab.find_ok G.ok hte).desc
    rw [execOp, ho]
    refine val_run ?_
    obtain ⟨e1, hh⟩ := hr _ hsat
    simp only [convert, Sem.run_bind, run_underlying us, run_underlying ut, Result.andThen_ok, rd_plain hx ha, run_underlying ue]
    rcases hh with ⟨rfl, rfl⟩ | ⟨b, off, rfl, hc⟩
    · have : sv = ByteArray.empty := by
        rw [strCells_length] at e1
        have h0 : sv.size = 0 := by simpa using e1
        exact ByteArray.size_eq_zero_iff.1 h0
      simp [Conv.bytesToString, this]
    · have hl := run_cells (P := G.P) hc (strCells sv).length 0 #[] (by omega)
      simp only [List.drop_zero, Array.empty_append] at hl
      have e1 : (strCells sv).length = n := by simpa using e1
      have hl' : (loadCells ⟨b, off, none⟩ n).run G.P w = .ok (strCells sv).toArray w := by rw [← e1]; exact hl
      simp only [Conv.bytesToString, Sem.run_bind, hl', Result.andThen_ok]
      rw [List.forIn_toArray]
      unfold strCells
      rw [push_all (fun b s => by simp [byteV]) sv.data.toList ByteArray.empty G.P w]
      simp⟩
theorem OP.quiet {v : Value} (h : Quiet G N env L o v) (hd : o.dst = some d) (hN : Nat.blt d N = true) (k : post ((d, .val v) :: env) L) : OP G N o env L post := .run (fun a w ha hs => h.run a w ha hs) hd hN k
end
section
variable {G : Ctx} {N : Nat} {env : Env} {L S : List Assn} {k : Kont} {n : Nat} {fuel : Nat} {listed : Array Bool} {l : List Oper} {o : Oper}
theorem WH.q (i : Nat) {d : Nat} {v : Value} (hi : l.toArray[i]? = some o) (hg : o.guard = none) (hs : Region.noSelect l.toArray = true) (hf : Region.free .any l.toArray listed i = true) (hr : (Region.ready .any l.toArray listed).contains i = true)
    (hk : ∀ c env L, ¬ k (.panic c) env L) (hin : Nat.blt i n = true) (hq : Quiet G N env S o v) (hdst : o.dst = some d) (hN : Nat.blt d N = true)
    (h : WH G N l.toArray n S true fuel (listed.setIfInBounds i true) ((d, .val v) :: env) L k) : WH G N l.toArray n S true (fuel + 1) listed env L k := .mk fun ht a w ha hsat hS hcl => by
  have hri : i ∈ Region.ready .any l.toArray listed := by simpa using hr
  have hin' : i < n := by simpa [Nat.blt_eq] using hin
  refine wpB_first (R := Sat S) hi (Region.noSelect_spec hs) (fun c a w => noPanic hk c a w _ _) ht (.inr ⟨hin', fun _ h => h⟩) fuel listed a w hcl (Region.free_spec hi hf) hri
    (.inl ⟨by simp [Region.wanted, hg], fun w hw => hq.run a w ha hw⟩) (hS rfl) (fun _ => hS rfl) ?_
  rw [hdst]; exact h ht _ w (ha.put hN v) hsat hS (hcl.set hri)
/-- its guard says yes -/
theorem WH.gT (i : Nat) {j jt d : Nat} {want : Bool} {oj : Oper} {v : Value} (hi : l.toArray[i]? = some o) (hg : o.guard = some (j, want)) (hj : l.toArray[j]? = some oj) (hjt : oj.dst = some jt) (hw : gdOf env jt want = some true)
    (hs : Region.noSelect l.toArray = true) (hf : Region.free .any l.toArray listed i = true) (hr : (Region.ready .any l.toArray listed).contains i = true)
    (hk : ∀ c env L, ¬ k (.panic c) env L) (hin : Nat.blt i n = true) (hq : Quiet G N env S o v) (hdst : o.dst = some d) (hN : Nat.blt d N = true)
    (h : WH G N l.toArray n S true fuel (listed.setIfInBounds i true) ((d, .val v) :: env) L k) : WH G N l.toArray n S true (fuel + 1) listed env L k := .mk fun ht a w ha hsat hS hcl => by
  have hri : i ∈ Region.ready .any l.toArray listed := by simpa using hr
  have hin' : i < n := by simpa [Nat.blt_eq] using hin
  have hw := gdOf_ok (ops := l.toArray) ha hw hj hjt hg
  refine wpB_first (R := Sat S) hi (Region.noSelect_spec hs) (fun c a w => noPanic hk c a w _ _) ht (.inr ⟨hin', fun _ h => h⟩) fuel listed a w hcl (Region.free_spec hi hf) hri
    (.inl ⟨hw, fun w hw => hq.run a w ha hw⟩) (hS rfl) (fun _ => hS rfl) ?_
  rw [hdst]; exact h ht _ w (ha.put hN v) hsat hS (hcl.set hri)
/-- what a guard's temporary says no to -/
def gdNo (env : Env) (t : Nat) (want : Bool) : Bool :=
  match want, Env.get env t with
  | true, some (.val (.bool false)) => true
  | false, some (.val (.bool true)) => true
  | _, some (.val (.tuple ⟨[]⟩)) => true
  | _, _ => false
theorem gdNo_ok {a : Act} (ha : Agree N env a) {t : Nat} {want : Bool} (h : gdNo env t want = true) {ops : Array Oper} {j : Nat} {oj : Oper} (hj : ops[j]? = some oj) (hd : oj.dst = some t) (hg : o.guard = some (j, want)) :
    Region.wanted o (yielded ops a.tmps) = false := by
  simp only [Region.wanted, hg, yielded, hj, hd, Option.bind_some]
  unfold gdNo at h
  split at h
  · rename_i hs
    have := ha.at_ _ _ hs
    simp only [Slot.fits] at this
    rw [this]
    rfl
  · rename_i hs
    have := ha.at_ _ _ hs
    simp only [Slot.fits] at this
    rw [this]
    rfl
  · rename_i hs
    have := ha.at_ _ _ hs
    simp only [Slot.fits] at this
    rw [this]
    rfl
  · cases h
/-- its guard says no -/
theorem WH.gF (i : Nat) {j jt d : Nat} {want : Bool} {oj : Oper} (hi : l.toArray[i]? = some o) (hg : o.guard = some (j, want)) (hj : l.toArray[j]? = some oj) (hjt : oj.dst = some jt) (hw : gdNo env jt want = true)
    (hs : Region.noSelect l.toArray = true) (hf : Region.free .any l.toArray listed i = true) (hr : (Region.ready .any l.toArray listed).contains i = true)
    (hk : ∀ c env L, ¬ k (.panic c) env L) (hin : Nat.blt i n = true) (hdst : o.dst = some d) (hN : Nat.blt d N = true)
    (h : WH G N l.toArray n S true fuel (listed.setIfInBounds i true) ((d, .val undef) :: env) L k) : WH G N l.toArray n S true (fuel + 1) listed env L k := .mk fun ht a w ha hsat hS hcl => by
  have hri : i ∈ Region.ready .any l.toArray listed := by simpa using hr
  have hin' : i < n := by simpa [Nat.blt_eq] using hin
  have hw := gdNo_ok (ops := l.toArray) ha hw hj hjt hg
  refine wpB_first (R := Sat S) (v := undef) hi (Region.noSelect_spec hs) (fun c a w => noPanic hk c a w _ _) ht (.inr ⟨hin', fun _ h => h⟩) fuel listed a w hcl (Region.free_spec hi hf) hri
    (.inr ⟨hw, rfl⟩) (hS rfl) (fun _ => hS rfl) ?_
  rw [hdst]; exact h ht _ w (ha.put hN _) hsat hS (hcl.set hri)
end
section
variable {G : Ctx} {env : Env} {L : List Assn}
theorem ret2c {p : Value → List Assn → Prop} {t u ty b off : Nat} {ti : TI} {v : Value} {l : List Value} (h1 : Env.get env t = some (.val v)) (h2 : Env.get env u = some (.val (.pointer (some ⟨b, off, none⟩)))) (ht : G.T.find ty = some ti) (hg : ti.agg = true) (hl : l.length = ti.size) (hc : Ent L (cellsAt b off l)) (h : p (.tuple #[v, .agg l.toArray]) L) :
    retK G [.tmp t, .cell u ty] p .ret env L := ⟨[v, .agg l.toArray], ⟨v, [.agg l.toArray], rfl, h1, b, off, _, [], ti, rfl, h2, ht, .inr ⟨hg, l, rfl, hl, hc⟩, rfl⟩, h⟩
theorem ret3c {p : Value → List Assn → Prop} {t u s ty b off : Nat} {ti : TI} {v x : Value} {l : List Value} (h1 : Env.get env t = some (.val v)) (h2 : Env.get env u = some (.val (.pointer (some ⟨b, off, none⟩)))) (h3 : Env.get env s = some (.val x)) (ht : G.T.find ty = some ti) (hg : ti.agg = true) (hl : l.length = ti.size) (hc : Ent L (cellsAt b off l)) (h : p (.tuple #[v, .agg l.toArray, x]) L) :
    retK G [.tmp t, .cell u ty, .tmp s] p .ret env L := ⟨[v, .agg l.toArray, x], ⟨v, [.agg l.toArray, x], rfl, h1, b, off, _, [x], ti, rfl, h2, ht, .inr ⟨hg, l, rfl, hl, hc⟩, x, [], rfl, h3, rfl⟩, h⟩
end
end Go.GL
/- Calls of functions without a body, by what they come to; calls through an interface. -/
namespace Go.GL
open Go
/-- A function without a body, and what it comes to. -/
def IsExt (P : Program) (f : FuncId) (e : Array Value → Sem Value) : Prop := ∀ args w, (callFunc f args).run P w = ((e args).run P w).andThen fun v w' => .ok (.value v) w'
section
variable {G : Ctx} {N : Nat} {env : Env} {L : List Assn} {o : Oper} {post : Env → List Assn → Prop} {d : Nat}
/-- What an operation that calls such a function comes to. -/
structure Execs (G : Ctx) (N : Nat) (env : Env) (o : Oper) (e : Array Value → Sem Value) (args : List Value) : Prop where
  run : ∀ a w, Agree N env a → (execOp a.eval o).run G.P w = ((e args.toArray).run G.P w).andThen fun v w' => .ok (.value v) w'
theorem Execs.call {f : FuncId} {xs : List Operand} {ats : Array TypeId} {vs : List Value} {e : Array Value → Sem Value} (he : IsExt G.P f e) (ho : o.op = .call ⟨.value (.func f), xs.toArray, ats⟩) (hv : rdAll env xs = some vs) : Execs G N env o e vs := ⟨fun a w ha => by
  rw [← he]
  simp only [execOp, ho, resolve, Act.eval, Deferred.ofValue, Sem.run_bind, Sem.run_pure, Result.andThen_ok, invoke]
  have := rdAll_ok ha hv
  simp [← this]⟩
theorem Execs.inv {f : FuncId} {recv : Operand} {name : String} {xs : List Operand} {ats : Array TypeId} {vs : List Value} {t : TypeId} {x r : Value} {e : Array Value → Sem Value} (he : IsExt G.P f e) (ho : o.op = .call ⟨.invoke recv name, xs.toArray, ats⟩) (hx : rd none env recv = some (none, .iface t x)) (hv : rdAll env xs = some vs)
    (hm : ∀ w, (method (G.P.types.size + Made.depth) t x name).run G.P w = .ok (f, r) w) : Execs G N env o e (r :: vs) := ⟨fun a w ha => by
  rw [← he]
  have h1 := rdAll_ok ha hv
  have h2 := rd_plain hx ha
  simp only [execOp, ho, resolve, Sem.run_bind, Sem.run_pure, Result.andThen_ok, invoke]
  simp [h2, h1, callMethod, hm]⟩
theorem OP.extP {e : Array Value → Sem Value} {vs : List Value} {v : Value} (x : Execs G N env o e vs) (hr : ∀ w, Sat L w → (e vs.toArray).run G.P w = .ok v w) (hd : o.dst = some d) (hN : Nat.blt d N = true) (h : post ((d, .val v) :: env) L) : OP G N o env L post :=
  .run (fun a w ha hs => by rw [x.run a w ha, hr w hs]; rfl) hd hN h
theorem OP.extNew {e : Array Value → Sem Value} {vs : List Value} {c : List Value} {T : TypeId} {mk : Nat → Value} (x : Execs G N env o e vs) (hr : ∀ w, Sat L w → (e vs.toArray).run G.P w = .ok (mk w.heap.size) (w.alloc (.cells c.toArray T))) (hd : o.dst = some d) (hN : Nat.blt d N = true)
    (h : ∀ b, post ((d, .val (mk b)) :: env) (blk b c T :: L)) : OP G N o env L post := .mk fun a w ha hs => by
  unfold Oper.wp
  rw [x.run a w ha, hr w hs]
  simp only [Result.andThen_ok, Oper.upon, hd]
  exact ⟨_, _, ha.put hN _, hs.new c T, h _⟩
theorem OP.extSet {e : Array Value → Sem Value} {vs : List Value} {v : Value} {b off : Nat} {c : List Value} {T : TypeId} {y : Value} {M : List Assn} (x : Execs G N env o e vs) (hr : ∀ w, Sat L w → (e vs.toArray).run G.P w = .ok v (w.setCell ⟨b, off, none⟩ y)) (hu : Upd L b c T (c.set off y) M) (hd : o.dst = some d) (hN : Nat.blt d N = true)
    (h : post ((d, .val v) :: env) M) : OP G N o env L post := .mk fun a w ha hs => by
  unfold Oper.wp
  rw [x.run a w ha, hr w hs]
  simp only [Result.andThen_ok, Oper.upon, hd]
  exact ⟨_, _, ha.put hN _, Sat.set hu hs, h⟩
/-- x.(I), with comma-ok -/
theorem OP.assert {x : Operand} {xT I t : TypeId} {v r : Value} (ho : o.op = .typeAssert x xT I true) (hx : rd none env x = some (none, .iface t v)) (hr : ∀ w, (Instr.typeAssert (.iface t v) xT I true).run G.P w = .ok r w) (hd : o.dst = some d) (hN : Nat.blt d N = true) (h : post ((d, .val r) :: env) L) : OP G N o env L post :=
  .run (fun a w ha _ => by
    rw [execOp, ho]
    refine val_run ?_
    rw [rd_plain hx ha]
    exact hr w) hd hN h
/-- a method that has a body, called through an interface -/
theorem OP.invRO {f : FuncId} {recv : Operand} {name : String} {ats : Array TypeId} {t : TypeId} {x r v : Value} {R : Assn} (ho : o.op = .call ⟨.invoke recv name, #[], ats⟩) (hx : rd none env recv = some (none, .iface t x))
    (hm : ∀ w, (method (G.P.types.size + Made.depth) t x name).run G.P w = .ok (f, r) w) (ht : RO G f [r] R v) (he : Ent L R) (hd : o.dst = some d) (hN : Nat.blt d N = true) (h : post ((d, .val v) :: env) L) : OP G N o env L post := .mk fun a w ha hs => by
  obtain ⟨dst, op, type, pos, after, guard⟩ := o
  simp only at ho hd
  subst ho hd
  have hcall : (execOp a.eval ⟨some d, .call ⟨.invoke recv name, #[], ats⟩, type, pos, after, guard⟩).run G.P w = .ok (.enter f [r].toArray) w := by
    obtain ⟨fn, c, h1, h2, h3⟩ := ht.enters.ex
    have h2' := rd_plain hx ha
    simp only [execOp, resolve, Sem.run_bind, Sem.run_pure, Result.andThen_ok, invoke]
    have h4 : ¬ fn.name = "runtime.NumGoroutine" := by simpa using h2
    simp [h2', callMethod, hm, callFunc, h1, h4, h3]
  unfold Oper.wp
  rw [hcall]
  simp only [Oper.upon]
  refine (ht.calls w (he _ hs)).mono ?_
  rintro e w' ⟨rfl, x⟩
  exact ⟨_, _, ha.put hN v, hs.ext x, h⟩
end
end Go.GL
/- In a drawn region: what its loads lean on may grow. -/
namespace Go.GL
open Go
theorem wpB_more {P : Program} {ops : Array Oper} {Q : Exit → Act → World → Prop} {S S' : World → Prop} {n : Nat} (h : ∀ w, S' w → S w) :
    ∀ (fuel : Nat) (listed : Array Bool) (a : Act) (w : World), wpB P ops Q S' n fuel listed a w → wpB P ops Q S n fuel listed a w
  | 0, _, _, _, x => x
  | fuel + 1, _, _, _, x => ⟨x.1, fun i hi => wpOp_mono (fun a' w' y => ⟨fun hin => h _ (y.1 hin), wpB_more h fuel _ a' w' y.2⟩) (x.2 i hi)⟩
/-- from here on the loads may lean on more -/
theorem WH.more {G : Ctx} {N : Nat} {ops : Array Oper} {n : Nat} {S : List Assn} (S' : List Assn) {fuel : Nat} {listed : Array Bool} {env : Env} {L : List Assn} {k : Kont} (hS : Imp S' S) (hL : Imp L S') (h : WH G N ops n S' true fuel listed env L k) : WH G N ops n S true fuel listed env L k :=
  .mk fun ht a w ha hs _ hcl => wpB_more (fun _ x => hS.sat x) fuel listed a w (h.go ht a w ha hs (fun _ => hL.sat hs) hcl)
end Go.GL
/- Short words for the steps of a proof. -/
namespace Go.GL
open Go
structure Hd (Q : Prop) : Prop where
  h : Q
theorem MM {α : Type} {a : α} {l : List α} (h : a ∈ l := by repeat (first | exact List.Mem.head _ | apply List.Mem.tail)) : a ∈ l := h
theorem II {L M : List Assn} (h : Imp L M := by exact (Imp.sub (by repeat (first | exact Picks.nil _ | apply Picks.cons | exact Pick.here _ _ | apply Pick.there)))) : Imp L M := h
theorem P1 {L M : List Assn} (h : Imp L M := by exact (Pick.imp (by repeat (first | exact Pick.here _ _ | apply Pick.there)))) : Imp L M := h
theorem PS {L M : List Assn} (h : Imp L M := by exact (Picks.imp (by repeat (first | exact Picks.nil _ | apply Picks.cons | exact Pick.here _ _ | apply Pick.there)))) : Imp L M := h
theorem UP {L M : List Assn} {b off : Nat} {vs : List Value} (h : UpdM L b off vs M := by exact (by repeat (first | exact UpdM.here rfl | apply UpdM.there))) : UpdM L b off vs M := h
theorem HN {L : List Assn} {b off : Nat} {v : Value} (h : HasNth L b off v := by exact (by repeat (first | exact HasNth.here rfl | apply HasNth.there))) : HasNth L b off v := h
theorem HC {L : List Assn} {b off n : Nat} {l : List Value} (h : HasCut L b off n l := by exact (by repeat (first | exact HasCut.here rfl | apply HasCut.there))) : HasCut L b off n l := h
theorem GO {P Q : Prop} (h : Q) (s : Hd Q → P := by
  intro hh
  (first
    | refine WC.seq ?_ | refine WC.region ?_ | refine WL.nil ?_ | with_reducible refine seqK.go ?_ | refine WC.block ?_ | refine WC.skip ?_ | refine WC.exit ?_ | refine WC.ret ?_
    | with_reducible refine seqK.exit ?_ | with_reducible refine seqK.ret ?_ | (with_reducible refine blockK.hit ?hb ?_; (case hb => rfl)) | (with_reducible refine blockK.miss ?hb ?_; (case hb => rfl)) | with_reducible refine blockK.normal ?_ | with_reducible refine blockK.ret ?_ | with_reducible refine loopK.exit ?_ | with_reducible refine loopK.ret ?_
    | refine WC.condT rfl ?_ | refine WC.condF rfl ?_
    | (refine WL.step rfl ?_; first | refine OP.pure (nw := true) rfl (by first | exact trivial | (simp only [Holds]; omega) | (simp [Holds]; done) | (simp [Holds]; omega)) rfl rfl ?_ | refine OP.pure (nw := false) rfl (by first | exact trivial | (simp only [Holds]; omega) | (simp [Holds]; done) | (simp [Holds]; omega)) rfl rfl ?_ | refine OP.pickT rfl rfl rfl rfl rfl ?_ | refine OP.pickF rfl rfl rfl rfl rfl ?_ | refine OP.loadN rfl rfl rfl rfl (by repeat (first | exact HasNth.here rfl | apply HasNth.there)) rfl rfl ?_ | refine OP.loadB rfl rfl rfl rfl rfl (by repeat (first | exact HasCut.here rfl | apply HasCut.there)) rfl rfl ?_ | refine OP.store rfl rfl rfl rfl rfl rfl rfl (by repeat (first | exact UpdM.here rfl | apply UpdM.there)) rfl ?_ | refine OP.buildT rfl rfl rfl rfl ?_ | refine OP.capS rfl rfl rfl rfl rfl rfl ?_)
    | (refine WL.guardT rfl rfl rfl rfl ?_; first | refine OP.pickT rfl rfl rfl rfl rfl ?_ | refine OP.pickF rfl rfl rfl rfl rfl ?_ | refine OP.pure (nw := true) rfl (by first | exact trivial | (simp only [Holds]; omega) | (simp [Holds]; done) | (simp [Holds]; omega)) rfl rfl ?_ | refine OP.pure (nw := false) rfl trivial rfl rfl ?_ | refine OP.loadN rfl rfl rfl rfl (by repeat (first | exact HasNth.here rfl | apply HasNth.there)) rfl rfl ?_ | refine OP.loadB rfl rfl rfl rfl rfl (by repeat (first | exact HasCut.here rfl | apply HasCut.there)) rfl rfl ?_ | refine OP.buildT rfl rfl rfl rfl ?_)
    | refine WL.guardF rfl rfl rfl rfl rfl rfl ?_ | refine WL.guardU rfl rfl rfl rfl rfl rfl ?_ | refine WL.guarded (nw := true) rfl rfl rfl rfl rfl rfl rfl (by first | exact trivial | (simp only [Holds]; omega) | (simp [Holds]; done) | (simp [Holds]; omega)) ?_)
  repeat (first
    | refine WC.seq ?_ | refine WC.region ?_ | refine WL.nil ?_ | with_reducible refine seqK.go ?_ | refine WC.block ?_ | refine WC.skip ?_ | refine WC.exit ?_ | refine WC.ret ?_
    | with_reducible refine seqK.exit ?_ | with_reducible refine seqK.ret ?_ | (with_reducible refine blockK.hit ?hb ?_; (case hb => rfl)) | (with_reducible refine blockK.miss ?hb ?_; (case hb => rfl)) | with_reducible refine blockK.normal ?_ | with_reducible refine blockK.ret ?_ | with_reducible refine loopK.exit ?_ | with_reducible refine loopK.ret ?_
    | refine WC.condT rfl ?_ | refine WC.condF rfl ?_
    | (refine WL.step rfl ?_; first | refine OP.pure (nw := true) rfl (by first | exact trivial | (simp only [Holds]; omega) | (simp [Holds]; done) | (simp [Holds]; omega)) rfl rfl ?_ | refine OP.pure (nw := false) rfl (by first | exact trivial | (simp only [Holds]; omega) | (simp [Holds]; done) | (simp [Holds]; omega)) rfl rfl ?_ | refine OP.pickT rfl rfl rfl rfl rfl ?_ | refine OP.pickF rfl rfl rfl rfl rfl ?_ | refine OP.loadN rfl rfl rfl rfl (by repeat (first | exact HasNth.here rfl | apply HasNth.there)) rfl rfl ?_ | refine OP.loadB rfl rfl rfl rfl rfl (by repeat (first | exact HasCut.here rfl | apply HasCut.there)) rfl rfl ?_ | refine OP.store rfl rfl rfl rfl rfl rfl rfl (by repeat (first | exact UpdM.here rfl | apply UpdM.there)) rfl ?_ | refine OP.buildT rfl rfl rfl rfl ?_ | refine OP.capS rfl rfl rfl rfl rfl rfl ?_)
    | (refine WL.guardT rfl rfl rfl rfl ?_; first | refine OP.pickT rfl rfl rfl rfl rfl ?_ | refine OP.pickF rfl rfl rfl rfl rfl ?_ | refine OP.pure (nw := true) rfl (by first | exact trivial | (simp only [Holds]; omega) | (simp [Holds]; done) | (simp [Holds]; omega)) rfl rfl ?_ | refine OP.pure (nw := false) rfl trivial rfl rfl ?_ | refine OP.loadN rfl rfl rfl rfl (by repeat (first | exact HasNth.here rfl | apply HasNth.there)) rfl rfl ?_ | refine OP.loadB rfl rfl rfl rfl rfl (by repeat (first | exact HasCut.here rfl | apply HasCut.there)) rfl rfl ?_ | refine OP.buildT rfl rfl rfl rfl ?_)
    | refine WL.guardF rfl rfl rfl rfl rfl rfl ?_ | refine WL.guardU rfl rfl rfl rfl rfl rfl ?_ | refine WL.guarded (nw := true) rfl rfl rfl rfl rfl rfl rfl (by first | exact trivial | (simp only [Holds]; omega) | (simp [Holds]; done) | (simp [Holds]; omega)) ?_)
  exact hh.h) : P := s ⟨h⟩
theorem GD {P Q : Prop} (h : Q) (s : Hd Q → P := by
  intro hh
  (first
    | refine WC.seq ?_ | refine WC.region ?_ | refine WL.nil ?_ | with_reducible refine seqK.go ?_ | refine WC.block ?_ | refine WC.skip ?_ | refine WC.exit ?_ | refine WC.ret ?_
    | with_reducible refine seqK.exit ?_ | with_reducible refine seqK.ret ?_ | (with_reducible refine blockK.hit ?hb ?_; (case hb => rfl)) | (with_reducible refine blockK.miss ?hb ?_; (case hb => rfl)) | with_reducible refine blockK.normal ?_ | with_reducible refine blockK.ret ?_ | with_reducible refine loopK.exit ?_ | with_reducible refine loopK.ret ?_
    | refine WC.condT rfl ?_ | refine WC.condF rfl ?_
    | (refine WL.step rfl ?_; first | refine OP.decT (nw := true) rfl trivial (by first | omega | assumption) rfl rfl ?_ | refine OP.decF (nw := true) rfl trivial (by first | omega | assumption) rfl rfl ?_ | refine OP.decNT (nw := true) rfl trivial (by first | omega | assumption) rfl rfl ?_ | refine OP.decNF (nw := true) rfl trivial (by first | omega | assumption) rfl rfl ?_ | refine OP.pure (nw := true) rfl (by first | exact trivial | (simp only [Holds]; omega) | (simp [Holds]; done) | (simp [Holds]; omega)) rfl rfl ?_ | refine OP.pure (nw := false) rfl (by first | exact trivial | (simp only [Holds]; omega) | (simp [Holds]; done) | (simp [Holds]; omega)) rfl rfl ?_ | refine OP.pickT rfl rfl rfl rfl rfl ?_ | refine OP.pickF rfl rfl rfl rfl rfl ?_ | refine OP.loadN rfl rfl rfl rfl (by repeat (first | exact HasNth.here rfl | apply HasNth.there)) rfl rfl ?_ | refine OP.loadB rfl rfl rfl rfl rfl (by repeat (first | exact HasCut.here rfl | apply HasCut.there)) rfl rfl ?_ | refine OP.store rfl rfl rfl rfl rfl rfl rfl (by repeat (first | exact UpdM.here rfl | apply UpdM.there)) rfl ?_ | refine OP.buildT rfl rfl rfl rfl ?_ | refine OP.capS rfl rfl rfl rfl rfl rfl ?_)
    | (refine WL.guardT rfl rfl rfl rfl ?_; first | refine OP.decT (nw := true) rfl trivial (by first | omega | assumption) rfl rfl ?_ | refine OP.decF (nw := true) rfl trivial (by first | omega | assumption) rfl rfl ?_ | refine OP.decNT (nw := true) rfl trivial (by first | omega | assumption) rfl rfl ?_ | refine OP.decNF (nw := true) rfl trivial (by first | omega | assumption) rfl rfl ?_ | refine OP.pickT rfl rfl rfl rfl rfl ?_ | refine OP.pickF rfl rfl rfl rfl rfl ?_ | refine OP.pure (nw := true) rfl (by first | exact trivial | (simp only [Holds]; omega) | (simp [Holds]; done) | (simp [Holds]; omega)) rfl rfl ?_ | refine OP.pure (nw := false) rfl trivial rfl rfl ?_ | refine OP.loadN rfl rfl rfl rfl (by repeat (first | exact HasNth.here rfl | apply HasNth.there)) rfl rfl ?_ | refine OP.loadB rfl rfl rfl rfl rfl (by repeat (first | exact HasCut.here rfl | apply HasCut.there)) rfl rfl ?_ | refine OP.buildT rfl rfl rfl rfl ?_)
    | refine WL.guardF rfl rfl rfl rfl rfl rfl ?_ | refine WL.guardU rfl rfl rfl rfl rfl rfl ?_ | refine WL.guarded (nw := true) rfl rfl rfl rfl rfl rfl rfl (by first | exact trivial | (simp only [Holds]; omega) | (simp [Holds]; done) | (simp [Holds]; omega)) ?_)
  repeat (first
    | refine WC.seq ?_ | refine WC.region ?_ | refine WL.nil ?_ | with_reducible refine seqK.go ?_ | refine WC.block ?_ | refine WC.skip ?_ | refine WC.exit ?_ | refine WC.ret ?_
    | with_reducible refine seqK.exit ?_ | with_reducible refine seqK.ret ?_ | (with_reducible refine blockK.hit ?hb ?_; (case hb => rfl)) | (with_reducible refine blockK.miss ?hb ?_; (case hb => rfl)) | with_reducible refine blockK.normal ?_ | with_reducible refine blockK.ret ?_ | with_reducible refine loopK.exit ?_ | with_reducible refine loopK.ret ?_
    | refine WC.condT rfl ?_ | refine WC.condF rfl ?_
    | (refine WL.step rfl ?_; first | refine OP.decT (nw := true) rfl trivial (by first | omega | assumption) rfl rfl ?_ | refine OP.decF (nw := true) rfl trivial (by first | omega | assumption) rfl rfl ?_ | refine OP.decNT (nw := true) rfl trivial (by first | omega | assumption) rfl rfl ?_ | refine OP.decNF (nw := true) rfl trivial (by first | omega | assumption) rfl rfl ?_ | refine OP.pure (nw := true) rfl (by first | exact trivial | (simp only [Holds]; omega) | (simp [Holds]; done) | (simp [Holds]; omega)) rfl rfl ?_ | refine OP.pure (nw := false) rfl (by first | exact trivial | (simp only [Holds]; omega) | (simp [Holds]; done) | (simp [Holds]; omega)) rfl rfl ?_ | refine OP.pickT rfl rfl rfl rfl rfl ?_ | refine OP.pickF rfl rfl rfl rfl rfl ?_ | refine OP.loadN rfl rfl rfl rfl (by repeat (first | exact HasNth.here rfl | apply HasNth.there)) rfl rfl ?_ | refine OP.loadB rfl rfl rfl rfl rfl (by repeat (first | exact HasCut.here rfl | apply HasCut.there)) rfl rfl ?_ | refine OP.store rfl rfl rfl rfl rfl rfl rfl (by repeat (first | exact UpdM.here rfl | apply UpdM.there)) rfl ?_ | refine OP.buildT rfl rfl rfl rfl ?_ | refine OP.capS rfl rfl rfl rfl rfl rfl ?_)
    | (refine WL.guardT rfl rfl rfl rfl ?_; first | refine OP.decT (nw := true) rfl trivial (by first | omega | assumption) rfl rfl ?_ | refine OP.decF (nw := true) rfl trivial (by first | omega | assumption) rfl rfl ?_ | refine OP.decNT (nw := true) rfl trivial (by first | omega | assumption) rfl rfl ?_ | refine OP.decNF (nw := true) rfl trivial (by first | omega | assumption) rfl rfl ?_ | refine OP.pickT rfl rfl rfl rfl rfl ?_ | refine OP.pickF rfl rfl rfl rfl rfl ?_ | refine OP.pure (nw := true) rfl (by first | exact trivial | (simp only [Holds]; omega) | (simp [Holds]; done) | (simp [Holds]; omega)) rfl rfl ?_ | refine OP.pure (nw := false) rfl trivial rfl rfl ?_ | refine OP.loadN rfl rfl rfl rfl (by repeat (first | exact HasNth.here rfl | apply HasNth.there)) rfl rfl ?_ | refine OP.loadB rfl rfl rfl rfl rfl (by repeat (first | exact HasCut.here rfl | apply HasCut.there)) rfl rfl ?_ | refine OP.buildT rfl rfl rfl rfl ?_)
    | refine WL.guardF rfl rfl rfl rfl rfl rfl ?_ | refine WL.guardU rfl rfl rfl rfl rfl rfl ?_ | refine WL.guarded (nw := true) rfl rfl rfl rfl rfl rfl rfl (by first | exact trivial | (simp only [Holds]; omega) | (simp [Holds]; done) | (simp [Holds]; omega)) ?_)
  exact hh.h) : P := s ⟨h⟩
theorem NW {P : Prop} {Q : Nat → Prop} (h : ∀ b, Q b) (s : Hd (∀ b, Q b) → P := by
  intro hh
  refine WL.step rfl ?_
  first | exact OP.alloc rfl rfl rfl rfl rfl hh.h | exact OP.box rfl rfl rfl rfl rfl hh.h | exact OP.sliceLit rfl rfl rfl rfl rfl rfl rfl rfl hh.h) : P := s ⟨h⟩
section
variable {G : Ctx} {N : Nat} {env : Env} {L S : List Assn} {k : Kont} {n : Nat} {fuel : Nat} {listed : Array Bool} {l : List Oper} {o : Oper} {hd : Bool}
def VW (_ : Nat) (Q P : Prop) : Prop := Hd Q → P
theorem VW.q {i d : Nat} {v : Value} (hi : l.toArray[i]? = some o) (hg : o.guard = none) (hs : Region.noSelect l.toArray = true) (hf : Region.free .any l.toArray listed i = true) (hr : (Region.ready .any l.toArray listed).contains i = true)
    (hk : ∀ c env L, ¬ k (.panic c) env L) (hin : Nat.blt i n = true) (hq : Quiet G N env S o v) (hdst : o.dst = some d) (hN : Nat.blt d N = true) :
    VW i (WH G N l.toArray n S true fuel (listed.setIfInBounds i true) ((d, .val v) :: env) L k) (WH G N l.toArray n S true (fuel + 1) listed env L k) := fun h => WH.q i hi hg hs hf hr hk hin hq hdst hN h.h
theorem VW.gT {i j jt d : Nat} {want : Bool} {oj : Oper} {v : Value} (hi : l.toArray[i]? = some o) (hg : o.guard = some (j, want)) (hj : l.toArray[j]? = some oj) (hjt : oj.dst = some jt) (hw : gdOf env jt want = some true)
    (hs : Region.noSelect l.toArray = true) (hf : Region.free .any l.toArray listed i = true) (hr : (Region.ready .any l.toArray listed).contains i = true)
    (hk : ∀ c env L, ¬ k (.panic c) env L) (hin : Nat.blt i n = true) (hq : Quiet G N env S o v) (hdst : o.dst = some d) (hN : Nat.blt d N = true) :
    VW i (WH G N l.toArray n S true fuel (listed.setIfInBounds i true) ((d, .val v) :: env) L k) (WH G N l.toArray n S true (fuel + 1) listed env L k) := fun h => WH.gT i hi hg hj hjt hw hs hf hr hk hin hq hdst hN h.h
theorem VW.gF {i j jt d : Nat} {want : Bool} {oj : Oper} (hi : l.toArray[i]? = some o) (hg : o.guard = some (j, want)) (hj : l.toArray[j]? = some oj) (hjt : oj.dst = some jt) (hw : gdNo env jt want = true)
    (hs : Region.noSelect l.toArray = true) (hf : Region.free .any l.toArray listed i = true) (hr : (Region.ready .any l.toArray listed).contains i = true)
    (hk : ∀ c env L, ¬ k (.panic c) env L) (hin : Nat.blt i n = true) (hdst : o.dst = some d) (hN : Nat.blt d N = true) :
    VW i (WH G N l.toArray n S true fuel (listed.setIfInBounds i true) ((d, .val undef) :: env) L k) (WH G N l.toArray n S true (fuel + 1) listed env L k) := fun h => WH.gF i hi hg hj hjt hw hs hf hr hk hin hdst hN h.h
theorem VW.pure {i d : Nat} {nw : Bool} {c : Option Prop} {v : Value} (hi : l.toArray[i]? = some o) (hg : o.guard = none) (hs : Region.noSelect l.toArray = true) (hf : Region.free .any l.toArray listed i = true) (hr : (Region.ready .any l.toArray listed).contains i = true)
    (hk : ∀ c env L, ¬ k (.panic c) env L) (hH : (hd || Nat.ble n i) = true) (he : ev G.T nw none env o.op = some (c, v)) (hc : Holds c) (hdst : o.dst = some d) (hN : Nat.blt d N = true) :
    VW i (WH G N l.toArray n S hd fuel (listed.setIfInBounds i true) ((d, .val v) :: env) L k) (WH G N l.toArray n S hd (fuel + 1) listed env L k) := fun h => WH.pure i hi hg hs hf hr hk hH he hc hdst hN h.h

theorem VV (i : Nat) {P Q : Prop} (h : Q) (s : VW i Q P := by first | exact VW.q rfl rfl (by kernel_rfl) (by kernel_rfl) (by kernel_rfl) (fun _ _ _ h => h) rfl (Quiet.pickT rfl rfl rfl) rfl rfl | exact VW.q rfl rfl (by kernel_rfl) (by kernel_rfl) (by kernel_rfl) (fun _ _ _ h => h) rfl (Quiet.pickF rfl rfl rfl) rfl rfl | exact VW.q rfl rfl (by kernel_rfl) (by kernel_rfl) (by kernel_rfl) (fun _ _ _ h => h) rfl (Quiet.pure (nw := true) rfl (by first | exact trivial | (simp only [Holds]; omega) | (simp [Holds]; done) | (simp [Holds]; omega))) rfl rfl | exact VW.q rfl rfl (by kernel_rfl) (by kernel_rfl) (by kernel_rfl) (fun _ _ _ h => h) rfl (Quiet.pure (nw := false) rfl (by first | exact trivial | (simp only [Holds]; omega) | (simp [Holds]; done) | (simp [Holds]; omega))) rfl rfl | exact VW.q rfl rfl (by kernel_rfl) (by kernel_rfl) (by kernel_rfl) (fun _ _ _ h => h) rfl (Quiet.load rfl rfl rfl (.inl ⟨rfl, HasNth.ent (by repeat (first | exact HasNth.here rfl | apply HasNth.there))⟩)) rfl rfl | exact VW.q rfl rfl (by kernel_rfl) (by kernel_rfl) (by kernel_rfl) (fun _ _ _ h => h) rfl (Quiet.load rfl rfl rfl (loads_cut rfl rfl (by repeat (first | exact HasCut.here rfl | apply HasCut.there)))) rfl rfl | exact VW.gT rfl rfl rfl rfl rfl (by kernel_rfl) (by kernel_rfl) (by kernel_rfl) (fun _ _ _ h => h) rfl (Quiet.pickT rfl rfl rfl) rfl rfl | exact VW.gT rfl rfl rfl rfl rfl (by kernel_rfl) (by kernel_rfl) (by kernel_rfl) (fun _ _ _ h => h) rfl (Quiet.pickF rfl rfl rfl) rfl rfl | exact VW.gT rfl rfl rfl rfl rfl (by kernel_rfl) (by kernel_rfl) (by kernel_rfl) (fun _ _ _ h => h) rfl (Quiet.pure (nw := true) rfl (by first | exact trivial | (simp only [Holds]; omega) | (simp [Holds]; done) | (simp [Holds]; omega))) rfl rfl | exact VW.gT rfl rfl rfl rfl rfl (by kernel_rfl) (by kernel_rfl) (by kernel_rfl) (fun _ _ _ h => h) rfl (Quiet.pure (nw := false) rfl (by first | exact trivial | (simp only [Holds]; omega) | (simp [Holds]; done) | (simp [Holds]; omega))) rfl rfl | exact VW.gT rfl rfl rfl rfl rfl (by kernel_rfl) (by kernel_rfl) (by kernel_rfl) (fun _ _ _ h => h) rfl (Quiet.load rfl rfl rfl (.inl ⟨rfl, HasNth.ent (by repeat (first | exact HasNth.here rfl | apply HasNth.there))⟩)) rfl rfl | exact VW.gT rfl rfl rfl rfl rfl (by kernel_rfl) (by kernel_rfl) (by kernel_rfl) (fun _ _ _ h => h) rfl (Quiet.load rfl rfl rfl (loads_cut rfl rfl (by repeat (first | exact HasCut.here rfl | apply HasCut.there)))) rfl rfl | exact VW.gF rfl rfl rfl rfl rfl (by kernel_rfl) (by kernel_rfl) (by kernel_rfl) (fun _ _ _ h => h) rfl rfl rfl) : P := s ⟨h⟩
theorem VF (i : Nat) {P Q : Prop} (h : Q) (s : VW i Q P := by exact VW.gF rfl rfl rfl rfl rfl (by kernel_rfl) (by kernel_rfl) (by kernel_rfl) (fun _ _ _ h => h) rfl rfl rfl) : P := s ⟨h⟩
theorem WW (i : Nat) {P Q : Prop} (h : Q) (s : VW i Q P := by first | exact VW.pure (nw := true) rfl rfl (by kernel_rfl) (by kernel_rfl) (by kernel_rfl) (fun _ _ _ h => h) rfl rfl (by first | exact trivial | (simp only [Holds]; omega) | (simp [Holds]; done) | (simp [Holds]; omega)) rfl rfl | exact VW.pure (nw := false) rfl rfl (by kernel_rfl) (by kernel_rfl) (by kernel_rfl) (fun _ _ _ h => h) rfl rfl (by first | exact trivial | (simp only [Holds]; omega) | (simp [Holds]; done) | (simp [Holds]; omega)) rfl rfl | exact VW.q rfl rfl (by kernel_rfl) (by kernel_rfl) (by kernel_rfl) (fun _ _ _ h => h) rfl (Quiet.load rfl rfl rfl (.inl ⟨rfl, HasNth.ent (by repeat (first | exact HasNth.here rfl | apply HasNth.there))⟩)) rfl rfl | exact VW.q rfl rfl (by kernel_rfl) (by kernel_rfl) (by kernel_rfl) (fun _ _ _ h => h) rfl (Quiet.load rfl rfl rfl (loads_cut rfl rfl (by repeat (first | exact HasCut.here rfl | apply HasCut.there)))) rfl rfl) : P := s ⟨h⟩
theorem VQ (i : Nat) {d : Nat} {v : Value} (hi : l.toArray[i]? = some o) (hq : Quiet G N env S o v) (h : WH G N l.toArray n S true fuel (listed.setIfInBounds i true) ((d, .val v) :: env) L k)
    (hg : o.guard = none := by rfl) (hs : Region.noSelect l.toArray = true := by kernel_rfl) (hf : Region.free .any l.toArray listed i = true := by kernel_rfl) (hr : (Region.ready .any l.toArray listed).contains i = true := by kernel_rfl)
    (hk : ∀ c env L, ¬ k (.panic c) env L := by exact (fun _ _ _ h => h)) (hin : Nat.blt i n = true := by rfl) (hdst : o.dst = some d := by rfl) (hN : Nat.blt d N = true := by rfl) : WH G N l.toArray n S true (fuel + 1) listed env L k := WH.q i hi hg hs hf hr hk hin hq hdst hN h
theorem VG (i : Nat) {j jt d : Nat} {want : Bool} {oj : Oper} {v : Value} (hi : l.toArray[i]? = some o) (hq : Quiet G N env S o v) (h : WH G N l.toArray n S true fuel (listed.setIfInBounds i true) ((d, .val v) :: env) L k)
    (hg : o.guard = some (j, want) := by rfl) (hj : l.toArray[j]? = some oj := by rfl) (hjt : oj.dst = some jt := by rfl) (hw : gdOf env jt want = some true := by rfl)
    (hs : Region.noSelect l.toArray = true := by kernel_rfl) (hf : Region.free .any l.toArray listed i = true := by kernel_rfl) (hr : (Region.ready .any l.toArray listed).contains i = true := by kernel_rfl)
    (hk : ∀ c env L, ¬ k (.panic c) env L := by exact (fun _ _ _ h => h)) (hin : Nat.blt i n = true := by rfl) (hdst : o.dst = some d := by rfl) (hN : Nat.blt d N = true := by rfl) : WH G N l.toArray n S true (fuel + 1) listed env L k := WH.gT i hi hg hj hjt hw hs hf hr hk hin hq hdst hN h
theorem VL (i : Nat) (v : Value) {d : Nat} {t : TypeId} {x : Operand} {b off : Nat} {ti : TI} (hi : l.toArray[i]? = some o) (ho : o.op = .load t x) (hx : rd none env x = some (none, .pointer (some ⟨b, off, none⟩))) (hti : G.T.find t = some ti) (hv : Loads S ti b off v)
    (h : WH G N l.toArray n S true fuel (listed.setIfInBounds i true) ((d, .val v) :: env) L k)
    (hg : o.guard = none := by rfl) (hs : Region.noSelect l.toArray = true := by kernel_rfl) (hf : Region.free .any l.toArray listed i = true := by kernel_rfl) (hr : (Region.ready .any l.toArray listed).contains i = true := by kernel_rfl)
    (hk : ∀ c env L, ¬ k (.panic c) env L := by exact (fun _ _ _ h => h)) (hin : Nat.blt i n = true := by rfl) (hdst : o.dst = some d := by rfl) (hN : Nat.blt d N = true := by rfl) : WH G N l.toArray n S true (fuel + 1) listed env L k := WH.load i hi hg hs hf hr hk hin ho hx hti hv hdst hN h
theorem RD {id : Nat} (n m : Nat) (S : List Assn) (h : WH G N l.toArray n S true m (Array.replicate m false) env L k) (hm : l.length = m := by rfl) (ht : tailB l.toArray n = true := by kernel_rfl) (hS : Imp L S := by first | exact Imp.refl _ | exact (Imp.sub (by repeat (first | exact Picks.nil _ | apply Picks.cons | exact Pick.here _ _ | apply Pick.there)))) : WC G N (.region id l.toArray true) env L k := WC.regionD n m S hm ht hS h
theorem DN (h : k .normal env L) (hr : Region.ready .any l.toArray listed = [] := by kernel_rfl) : WH G N l.toArray n S hd fuel listed env L k := WH.done hr h
end
end Go.GL
/- The table of this seat's types, and that it is the program's. Written by gentab.py. -/
namespace Go.Proofs.YtkoakmaihcheaabDoor
open Go Go.GL
theorem ti0 : TIOk Tryd.prog 0 ⟨(@Go.TypeDesc.tuple #[]), 1, 0, [(@Go.Value.tuple #[])], false, Bool.false⟩ := ⟨Tryd.underlying0, by kernel_rfl, rfl, rfl, rfl⟩
theorem ti1 : TIOk Tryd.prog 1 ⟨(@Go.TypeDesc.func #[] #[] Bool.false), 1, 8, [Go.Value.nilFunc], false, Bool.false⟩ := ⟨Tryd.underlying1, by kernel_rfl, rfl, rfl, rfl⟩
theorem ti2 : TIOk Tryd.prog 2 ⟨(@Go.TypeDesc.int Go.IntKind.i64), 1, 8, [(@Go.Value.int Go.IntKind.i64 0)], false, Bool.true⟩ := ⟨Tryd.underlying2, by kernel_rfl, rfl, rfl, rfl⟩
theorem ti3 : TIOk Tryd.prog 3 ⟨(@Go.TypeDesc.int Go.IntKind.i64), 1, 8, [(@Go.Value.int Go.IntKind.i64 0)], false, Bool.true⟩ := ⟨Tryd.underlying3, by kernel_rfl, rfl, rfl, rfl⟩
theorem ti4 : TIOk Tryd.prog 4 ⟨Go.TypeDesc.bool, 1, 1, [(@Go.Value.bool Bool.false)], false, Bool.true⟩ := ⟨Tryd.underlying4, by kernel_rfl, rfl, rfl, rfl⟩
theorem ti5 : TIOk Tryd.prog 5 ⟨(@Go.TypeDesc.int Go.IntKind.u8), 1, 1, [(@Go.Value.int Go.IntKind.u8 0)], false, Bool.true⟩ := ⟨Tryd.underlying5, by kernel_rfl, rfl, rfl, rfl⟩
theorem ti6 : TIOk Tryd.prog 6 ⟨(@Go.TypeDesc.int Go.IntKind.u8), 1, 1, [(@Go.Value.int Go.IntKind.u8 0)], false, Bool.true⟩ := ⟨Tryd.underlying6, by kernel_rfl, rfl, rfl, rfl⟩
theorem ti7 : TIOk Tryd.prog 7 ⟨(@Go.TypeDesc.struct #[(@Go.Field.mk "x" 2 0 Bool.false "" "runtime" 0), (@Go.Field.mk "y" 3 1 Bool.false "" "runtime" 8), (@Go.Field.mk "signed" 4 2 Bool.false "" "runtime" 16), (@Go.Field.mk "code" 6 3 Bool.false "" "runtime" 17)]), 4, 24, [(@Go.Value.int Go.IntKind.i64 0), (@Go.Value.int Go.IntKind.i64 0), (@Go.Value.bool Bool.false), (@Go.Value.int Go.IntKind.u8 0)], true, Bool.true⟩ := ⟨Tryd.underlying7, by kernel_rfl, rfl, rfl, rfl⟩
theorem ti8 : TIOk Tryd.prog 8 ⟨(@Go.TypeDesc.struct #[(@Go.Field.mk "x" 2 0 Bool.false "" "runtime" 0), (@Go.Field.mk "y" 3 1 Bool.false "" "runtime" 8), (@Go.Field.mk "signed" 4 2 Bool.false "" "runtime" 16), (@Go.Field.mk "code" 6 3 Bool.false "" "runtime" 17)]), 4, 24, [(@Go.Value.int Go.IntKind.i64 0), (@Go.Value.int Go.IntKind.i64 0), (@Go.Value.bool Bool.false), (@Go.Value.int Go.IntKind.u8 0)], true, Bool.true⟩ := ⟨Tryd.underlying8, by kernel_rfl, rfl, rfl, rfl⟩
theorem ti9 : TIOk Tryd.prog 9 ⟨Go.TypeDesc.string, 1, 16, [(@Go.Value.string (@ByteArray.mk #[]))], false, Bool.true⟩ := ⟨Tryd.underlying9, by kernel_rfl, rfl, rfl, rfl⟩
theorem ti10 : TIOk Tryd.prog 10 ⟨Go.TypeDesc.string, 1, 16, [(@Go.Value.string (@ByteArray.mk #[]))], false, Bool.true⟩ := ⟨Tryd.underlying10, by kernel_rfl, rfl, rfl, rfl⟩
theorem ti11 : TIOk Tryd.prog 11 ⟨Go.TypeDesc.string, 1, 16, [(@Go.Value.string (@ByteArray.mk #[]))], false, Bool.true⟩ := ⟨Tryd.underlying11, by kernel_rfl, rfl, rfl, rfl⟩
theorem ti12 : TIOk Tryd.prog 12 ⟨(@Go.TypeDesc.int Go.IntKind.u64), 1, 8, [(@Go.Value.int Go.IntKind.u64 0)], false, Bool.true⟩ := ⟨Tryd.underlying12, by kernel_rfl, rfl, rfl, rfl⟩
theorem ti13 : TIOk Tryd.prog 13 ⟨(@Go.TypeDesc.struct #[(@Go.Field.mk "msg" 9 0 Bool.false "" "runtime" 0), (@Go.Field.mk "addr" 12 1 Bool.false "" "runtime" 16)]), 2, 24, [(@Go.Value.string (@ByteArray.mk #[])), (@Go.Value.int Go.IntKind.u64 0)], true, Bool.true⟩ := ⟨Tryd.underlying13, by kernel_rfl, rfl, rfl, rfl⟩
theorem ti14 : TIOk Tryd.prog 14 ⟨(@Go.TypeDesc.struct #[(@Go.Field.mk "msg" 9 0 Bool.false "" "runtime" 0), (@Go.Field.mk "addr" 12 1 Bool.false "" "runtime" 16)]), 2, 24, [(@Go.Value.string (@ByteArray.mk #[])), (@Go.Value.int Go.IntKind.u64 0)], true, Bool.true⟩ := ⟨Tryd.underlying14, by kernel_rfl, rfl, rfl, rfl⟩
theorem ti15 : TIOk Tryd.prog 15 ⟨(@Go.TypeDesc.pointer 146), 1, 8, [(@Go.Value.pointer none)], false, Bool.true⟩ := ⟨Tryd.underlying15, by kernel_rfl, rfl, rfl, rfl⟩
theorem ti16 : TIOk Tryd.prog 16 ⟨(@Go.TypeDesc.pointer 149), 1, 8, [(@Go.Value.pointer none)], false, Bool.true⟩ := ⟨Tryd.underlying16, by kernel_rfl, rfl, rfl, rfl⟩
theorem ti17 : TIOk Tryd.prog 17 ⟨(@Go.TypeDesc.pointer 157), 1, 8, [(@Go.Value.pointer none)], false, Bool.true⟩ := ⟨Tryd.underlying17, by kernel_rfl, rfl, rfl, rfl⟩
theorem ti18 : TIOk Tryd.prog 18 ⟨(@Go.TypeDesc.struct #[(@Go.Field.mk "typ" 17 0 Bool.false "" "internal/runtime/maps" 0)]), 1, 8, [(@Go.Value.pointer none)], true, Bool.true⟩ := ⟨Tryd.underlying18, by kernel_rfl, rfl, rfl, rfl⟩
theorem ti19 : TIOk Tryd.prog 19 ⟨(@Go.TypeDesc.struct #[(@Go.Field.mk "typ" 17 0 Bool.false "" "internal/runtime/maps" 0)]), 1, 8, [(@Go.Value.pointer none)], true, Bool.true⟩ := ⟨Tryd.underlying19, by kernel_rfl, rfl, rfl, rfl⟩
theorem ti20 : TIOk Tryd.prog 20 ⟨(@Go.TypeDesc.interface #[]), 1, 16, [Go.Value.nilIface], false, Bool.true⟩ := ⟨Tryd.underlying20, by kernel_rfl, rfl, rfl, rfl⟩
theorem ti21 : TIOk Tryd.prog 21 ⟨(@Go.TypeDesc.int Go.IntKind.i32), 1, 4, [(@Go.Value.int Go.IntKind.i32 0)], false, Bool.true⟩ := ⟨Tryd.underlying21, by kernel_rfl, rfl, rfl, rfl⟩
theorem ti22 : TIOk Tryd.prog 22 ⟨(@Go.TypeDesc.slice 3), 1, 24, [(@Go.Value.slice none 0 0)], false, Bool.false⟩ := ⟨Tryd.underlying22, by kernel_rfl, rfl, rfl, rfl⟩
theorem ti23 : TIOk Tryd.prog 23 ⟨(@Go.TypeDesc.func #[] #[4] Bool.false), 1, 8, [Go.Value.nilFunc], false, Bool.false⟩ := ⟨Tryd.underlying23, by kernel_rfl, rfl, rfl, rfl⟩
theorem ti24 : TIOk Tryd.prog 24 ⟨(@Go.TypeDesc.pointer 69), 1, 8, [(@Go.Value.pointer none)], false, Bool.true⟩ := ⟨Tryd.underlying24, by kernel_rfl, rfl, rfl, rfl⟩
theorem ti25 : TIOk Tryd.prog 25 ⟨(@Go.TypeDesc.interface #[("Error", 57)]), 1, 16, [Go.Value.nilIface], false, Bool.true⟩ := ⟨Tryd.underlying25, by kernel_rfl, rfl, rfl, rfl⟩
theorem ti26 : TIOk Tryd.prog 26 ⟨(@Go.TypeDesc.interface #[("Error", 57)]), 1, 16, [Go.Value.nilIface], false, Bool.true⟩ := ⟨Tryd.underlying26, by kernel_rfl, rfl, rfl, rfl⟩
theorem ti27 : TIOk Tryd.prog 27 ⟨(@Go.TypeDesc.tuple #[24, 26]), 1, 0, [(@Go.Value.tuple #[(@Go.Value.pointer none), Go.Value.nilIface])], false, Bool.false⟩ := ⟨Tryd.underlying27, by kernel_rfl, rfl, rfl, rfl⟩
theorem ti28 : TIOk Tryd.prog 28 ⟨(@Go.TypeDesc.func #[22] #[24, 26] Bool.true), 1, 8, [Go.Value.nilFunc], false, Bool.false⟩ := ⟨Tryd.underlying28, by kernel_rfl, rfl, rfl, rfl⟩
theorem ti29 : TIOk Tryd.prog 29 ⟨(@Go.TypeDesc.int Go.IntKind.i64), 1, 8, [(@Go.Value.int Go.IntKind.i64 0)], false, Bool.true⟩ := ⟨Tryd.underlying29, by kernel_rfl, rfl, rfl, rfl⟩
theorem ti30 : TIOk Tryd.prog 30 ⟨(@Go.TypeDesc.func #[26] #[29] Bool.false), 1, 8, [Go.Value.nilFunc], false, Bool.false⟩ := ⟨Tryd.underlying30, by kernel_rfl, rfl, rfl, rfl⟩
theorem ti31 : TIOk Tryd.prog 31 ⟨(@Go.TypeDesc.func #[3] #[22] Bool.false), 1, 8, [Go.Value.nilFunc], false, Bool.false⟩ := ⟨Tryd.underlying31, by kernel_rfl, rfl, rfl, rfl⟩
theorem ti32 : TIOk Tryd.prog 32 ⟨(@Go.TypeDesc.func #[22, 3] #[4] Bool.false), 1, 8, [Go.Value.nilFunc], false, Bool.false⟩ := ⟨Tryd.underlying32, by kernel_rfl, rfl, rfl, rfl⟩
theorem ti33 : TIOk Tryd.prog 33 ⟨(@Go.TypeDesc.func #[22, 22] #[4] Bool.false), 1, 8, [Go.Value.nilFunc], false, Bool.false⟩ := ⟨Tryd.underlying33, by kernel_rfl, rfl, rfl, rfl⟩
theorem ti34 : TIOk Tryd.prog 34 ⟨(@Go.TypeDesc.slice 5), 1, 24, [(@Go.Value.slice none 0 0)], false, Bool.false⟩ := ⟨Tryd.underlying34, by kernel_rfl, rfl, rfl, rfl⟩
theorem ti35 : TIOk Tryd.prog 35 ⟨(@Go.TypeDesc.func #[] #[34] Bool.false), 1, 8, [Go.Value.nilFunc], false, Bool.false⟩ := ⟨Tryd.underlying35, by kernel_rfl, rfl, rfl, rfl⟩
theorem ti36 : TIOk Tryd.prog 36 ⟨(@Go.TypeDesc.func #[] #[3] Bool.false), 1, 8, [Go.Value.nilFunc], false, Bool.false⟩ := ⟨Tryd.underlying36, by kernel_rfl, rfl, rfl, rfl⟩
theorem ti37 : TIOk Tryd.prog 37 ⟨(@Go.TypeDesc.struct #[(@Go.Field.mk "Seq" 3 0 Bool.false "" "" 0), (@Go.Field.mk "Kind" 3 1 Bool.false "" "" 8), (@Go.Field.mk "Block" 3 2 Bool.false "" "" 16), (@Go.Field.mk "Data" 9 3 Bool.false "" "" 24), (@Go.Field.mk "Number" 3 4 Bool.false "" "" 40)]), 5, 48, [(@Go.Value.int Go.IntKind.i64 0), (@Go.Value.int Go.IntKind.i64 0), (@Go.Value.int Go.IntKind.i64 0), (@Go.Value.string (@ByteArray.mk #[])), (@Go.Value.int Go.IntKind.i64 0)], true, Bool.true⟩ := ⟨Tryd.underlying37, by kernel_rfl, rfl, rfl, rfl⟩
theorem ti38 : TIOk Tryd.prog 38 ⟨(@Go.TypeDesc.struct #[(@Go.Field.mk "Seq" 3 0 Bool.false "" "" 0), (@Go.Field.mk "Kind" 3 1 Bool.false "" "" 8), (@Go.Field.mk "Block" 3 2 Bool.false "" "" 16), (@Go.Field.mk "Data" 9 3 Bool.false "" "" 24), (@Go.Field.mk "Number" 3 4 Bool.false "" "" 40)]), 5, 48, [(@Go.Value.int Go.IntKind.i64 0), (@Go.Value.int Go.IntKind.i64 0), (@Go.Value.int Go.IntKind.i64 0), (@Go.Value.string (@ByteArray.mk #[])), (@Go.Value.int Go.IntKind.i64 0)], true, Bool.true⟩ := ⟨Tryd.underlying38, by kernel_rfl, rfl, rfl, rfl⟩
theorem ti39 : TIOk Tryd.prog 39 ⟨(@Go.TypeDesc.func #[38] #[4] Bool.false), 1, 8, [Go.Value.nilFunc], false, Bool.false⟩ := ⟨Tryd.underlying39, by kernel_rfl, rfl, rfl, rfl⟩
theorem ti40 : TIOk Tryd.prog 40 ⟨(@Go.TypeDesc.tuple #[34, 26]), 1, 0, [(@Go.Value.tuple #[(@Go.Value.slice none 0 0), Go.Value.nilIface])], false, Bool.false⟩ := ⟨Tryd.underlying40, by kernel_rfl, rfl, rfl, rfl⟩
theorem ti41 : TIOk Tryd.prog 41 ⟨(@Go.TypeDesc.func #[3, 38] #[34, 26] Bool.false), 1, 8, [Go.Value.nilFunc], false, Bool.false⟩ := ⟨Tryd.underlying41, by kernel_rfl, rfl, rfl, rfl⟩
theorem ti42 : TIOk Tryd.prog 42 ⟨(@Go.TypeDesc.tuple #[9, 3]), 1, 0, [(@Go.Value.tuple #[(@Go.Value.string (@ByteArray.mk #[])), (@Go.Value.int Go.IntKind.i64 0)])], false, Bool.false⟩ := ⟨Tryd.underlying42, by kernel_rfl, rfl, rfl, rfl⟩
theorem ti43 : TIOk Tryd.prog 43 ⟨(@Go.TypeDesc.func #[3, 38] #[9, 3] Bool.false), 1, 8, [Go.Value.nilFunc], false, Bool.false⟩ := ⟨Tryd.underlying43, by kernel_rfl, rfl, rfl, rfl⟩
theorem ti44 : TIOk Tryd.prog 44 ⟨(@Go.TypeDesc.tuple #[3, 4]), 1, 0, [(@Go.Value.tuple #[(@Go.Value.int Go.IntKind.i64 0), (@Go.Value.bool Bool.false)])], false, Bool.false⟩ := ⟨Tryd.underlying44, by kernel_rfl, rfl, rfl, rfl⟩
theorem ti45 : TIOk Tryd.prog 45 ⟨(@Go.TypeDesc.func #[26, 9] #[3, 4] Bool.false), 1, 8, [Go.Value.nilFunc], false, Bool.false⟩ := ⟨Tryd.underlying45, by kernel_rfl, rfl, rfl, rfl⟩
theorem ti46 : TIOk Tryd.prog 46 ⟨(@Go.TypeDesc.func #[3, 38] #[4] Bool.false), 1, 8, [Go.Value.nilFunc], false, Bool.false⟩ := ⟨Tryd.underlying46, by kernel_rfl, rfl, rfl, rfl⟩
theorem ti47 : TIOk Tryd.prog 47 ⟨(@Go.TypeDesc.slice 53), 1, 24, [(@Go.Value.slice none 0 0)], false, Bool.false⟩ := ⟨Tryd.underlying47, by kernel_rfl, rfl, rfl, rfl⟩
theorem ti48 : TIOk Tryd.prog 48 ⟨(@Go.TypeDesc.pointer 91), 1, 8, [(@Go.Value.pointer none)], false, Bool.true⟩ := ⟨Tryd.underlying48, by kernel_rfl, rfl, rfl, rfl⟩
theorem ti49 : TIOk Tryd.prog 49 ⟨(@Go.TypeDesc.tuple #[48, 3, 3]), 1, 0, [(@Go.Value.tuple #[(@Go.Value.pointer none), (@Go.Value.int Go.IntKind.i64 0), (@Go.Value.int Go.IntKind.i64 0)])], false, Bool.false⟩ := ⟨Tryd.underlying49, by kernel_rfl, rfl, rfl, rfl⟩
theorem ti50 : TIOk Tryd.prog 50 ⟨(@Go.TypeDesc.func #[22] #[48, 3, 3] Bool.false), 1, 8, [Go.Value.nilFunc], false, Bool.false⟩ := ⟨Tryd.underlying50, by kernel_rfl, rfl, rfl, rfl⟩
theorem ti51 : TIOk Tryd.prog 51 ⟨(@Go.TypeDesc.func #[26, 3, 3] #[4] Bool.false), 1, 8, [Go.Value.nilFunc], false, Bool.false⟩ := ⟨Tryd.underlying51, by kernel_rfl, rfl, rfl, rfl⟩
theorem ti52 : TIOk Tryd.prog 52 ⟨(@Go.TypeDesc.struct #[(@Go.Field.mk "Kind" 3 0 Bool.false "" "" 0), (@Go.Field.mk "V" 3 1 Bool.false "" "" 8), (@Go.Field.mk "M" 3 2 Bool.false "" "" 16)]), 3, 24, [(@Go.Value.int Go.IntKind.i64 0), (@Go.Value.int Go.IntKind.i64 0), (@Go.Value.int Go.IntKind.i64 0)], true, Bool.true⟩ := ⟨Tryd.underlying52, by kernel_rfl, rfl, rfl, rfl⟩
theorem ti53 : TIOk Tryd.prog 53 ⟨(@Go.TypeDesc.struct #[(@Go.Field.mk "Kind" 3 0 Bool.false "" "" 0), (@Go.Field.mk "V" 3 1 Bool.false "" "" 8), (@Go.Field.mk "M" 3 2 Bool.false "" "" 16)]), 3, 24, [(@Go.Value.int Go.IntKind.i64 0), (@Go.Value.int Go.IntKind.i64 0), (@Go.Value.int Go.IntKind.i64 0)], true, Bool.true⟩ := ⟨Tryd.underlying53, by kernel_rfl, rfl, rfl, rfl⟩
theorem ti54 : TIOk Tryd.prog 54 ⟨(@Go.TypeDesc.func #[3, 3] #[26] Bool.false), 1, 8, [Go.Value.nilFunc], false, Bool.false⟩ := ⟨Tryd.underlying54, by kernel_rfl, rfl, rfl, rfl⟩
theorem ti55 : TIOk Tryd.prog 55 ⟨(@Go.TypeDesc.func #[3, 3, 4] #[3] Bool.false), 1, 8, [Go.Value.nilFunc], false, Bool.false⟩ := ⟨Tryd.underlying55, by kernel_rfl, rfl, rfl, rfl⟩
theorem ti56 : TIOk Tryd.prog 56 ⟨(@Go.TypeDesc.func #[] #[22] Bool.false), 1, 8, [Go.Value.nilFunc], false, Bool.false⟩ := ⟨Tryd.underlying56, by kernel_rfl, rfl, rfl, rfl⟩
theorem ti57 : TIOk Tryd.prog 57 ⟨(@Go.TypeDesc.func #[] #[9] Bool.false), 1, 8, [Go.Value.nilFunc], false, Bool.false⟩ := ⟨Tryd.underlying57, by kernel_rfl, rfl, rfl, rfl⟩
theorem ti58 : TIOk Tryd.prog 58 ⟨(@Go.TypeDesc.func #[22, 47, 3] #[4] Bool.false), 1, 8, [Go.Value.nilFunc], false, Bool.false⟩ := ⟨Tryd.underlying58, by kernel_rfl, rfl, rfl, rfl⟩
theorem ti59 : TIOk Tryd.prog 59 ⟨(@Go.TypeDesc.func #[3, 3] #[4] Bool.false), 1, 8, [Go.Value.nilFunc], false, Bool.false⟩ := ⟨Tryd.underlying59, by kernel_rfl, rfl, rfl, rfl⟩
theorem ti60 : TIOk Tryd.prog 60 ⟨(@Go.TypeDesc.func #[34] #[24, 26] Bool.false), 1, 8, [Go.Value.nilFunc], false, Bool.false⟩ := ⟨Tryd.underlying60, by kernel_rfl, rfl, rfl, rfl⟩
theorem ti61 : TIOk Tryd.prog 61 ⟨(@Go.TypeDesc.tuple #[48, 3]), 1, 0, [(@Go.Value.tuple #[(@Go.Value.pointer none), (@Go.Value.int Go.IntKind.i64 0)])], false, Bool.false⟩ := ⟨Tryd.underlying61, by kernel_rfl, rfl, rfl, rfl⟩
theorem ti62 : TIOk Tryd.prog 62 ⟨(@Go.TypeDesc.func #[9] #[48, 3] Bool.false), 1, 8, [Go.Value.nilFunc], false, Bool.false⟩ := ⟨Tryd.underlying62, by kernel_rfl, rfl, rfl, rfl⟩
theorem ti63 : TIOk Tryd.prog 63 ⟨(@Go.TypeDesc.func #[24, 47] #[] Bool.false), 1, 8, [Go.Value.nilFunc], false, Bool.false⟩ := ⟨Tryd.underlying63, by kernel_rfl, rfl, rfl, rfl⟩
theorem ti64 : TIOk Tryd.prog 64 ⟨(@Go.TypeDesc.func #[9, 22, 47, 3] #[4] Bool.false), 1, 8, [Go.Value.nilFunc], false, Bool.false⟩ := ⟨Tryd.underlying64, by kernel_rfl, rfl, rfl, rfl⟩
theorem ti65 : TIOk Tryd.prog 65 ⟨(@Go.TypeDesc.array 4 4), 4, 4, [(@Go.Value.bool Bool.false), (@Go.Value.bool Bool.false), (@Go.Value.bool Bool.false), (@Go.Value.bool Bool.false)], true, Bool.true⟩ := ⟨Tryd.underlying65, by kernel_rfl, rfl, rfl, rfl⟩
theorem ti66 : TIOk Tryd.prog 66 ⟨(@Go.TypeDesc.array 4 4), 4, 4, [(@Go.Value.bool Bool.false), (@Go.Value.bool Bool.false), (@Go.Value.bool Bool.false), (@Go.Value.bool Bool.false)], true, Bool.true⟩ := ⟨Tryd.underlying66, by kernel_rfl, rfl, rfl, rfl⟩
theorem ti67 : TIOk Tryd.prog 67 ⟨(@Go.TypeDesc.slice 75), 1, 24, [(@Go.Value.slice none 0 0)], false, Bool.false⟩ := ⟨Tryd.underlying67, by kernel_rfl, rfl, rfl, rfl⟩
theorem ti68 : TIOk Tryd.prog 68 ⟨(@Go.TypeDesc.struct #[(@Go.Field.mk "first" 66 0 Bool.false "" "isobar/member" 0), (@Go.Field.mk "changes" 67 4 Bool.false "" "isobar/member" 8)]), 5, 32, [(@Go.Value.bool Bool.false), (@Go.Value.bool Bool.false), (@Go.Value.bool Bool.false), (@Go.Value.bool Bool.false), (@Go.Value.slice none 0 0)], true, Bool.false⟩ := ⟨Tryd.underlying68, by kernel_rfl, rfl, rfl, rfl⟩
theorem ti69 : TIOk Tryd.prog 69 ⟨(@Go.TypeDesc.struct #[(@Go.Field.mk "first" 66 0 Bool.false "" "isobar/member" 0), (@Go.Field.mk "changes" 67 4 Bool.false "" "isobar/member" 8)]), 5, 32, [(@Go.Value.bool Bool.false), (@Go.Value.bool Bool.false), (@Go.Value.bool Bool.false), (@Go.Value.bool Bool.false), (@Go.Value.slice none 0 0)], true, Bool.false⟩ := ⟨Tryd.underlying69, by kernel_rfl, rfl, rfl, rfl⟩
theorem ti70 : TIOk Tryd.prog 70 ⟨(@Go.TypeDesc.func #[3] #[4] Bool.false), 1, 8, [Go.Value.nilFunc], false, Bool.false⟩ := ⟨Tryd.underlying70, by kernel_rfl, rfl, rfl, rfl⟩
theorem ti71 : TIOk Tryd.prog 71 ⟨(@Go.TypeDesc.func #[3, 29] #[26] Bool.false), 1, 8, [Go.Value.nilFunc], false, Bool.false⟩ := ⟨Tryd.underlying71, by kernel_rfl, rfl, rfl, rfl⟩
theorem ti72 : TIOk Tryd.prog 72 ⟨(@Go.TypeDesc.func #[26, 20] #[4] Bool.false), 1, 8, [Go.Value.nilFunc], false, Bool.false⟩ := ⟨Tryd.underlying72, by kernel_rfl, rfl, rfl, rfl⟩
theorem ti73 : TIOk Tryd.prog 73 ⟨(@Go.TypeDesc.pointer 29), 1, 8, [(@Go.Value.pointer none)], false, Bool.true⟩ := ⟨Tryd.underlying73, by kernel_rfl, rfl, rfl, rfl⟩
theorem ti74 : TIOk Tryd.prog 74 ⟨(@Go.TypeDesc.struct #[(@Go.Field.mk "mark" 3 0 Bool.false "" "isobar/member" 0), (@Go.Field.mk "volume" 3 1 Bool.false "" "isobar/member" 8), (@Go.Field.mk "gone" 4 2 Bool.false "" "isobar/member" 16)]), 3, 24, [(@Go.Value.int Go.IntKind.i64 0), (@Go.Value.int Go.IntKind.i64 0), (@Go.Value.bool Bool.false)], true, Bool.true⟩ := ⟨Tryd.underlying74, by kernel_rfl, rfl, rfl, rfl⟩
theorem ti75 : TIOk Tryd.prog 75 ⟨(@Go.TypeDesc.struct #[(@Go.Field.mk "mark" 3 0 Bool.false "" "isobar/member" 0), (@Go.Field.mk "volume" 3 1 Bool.false "" "isobar/member" 8), (@Go.Field.mk "gone" 4 2 Bool.false "" "isobar/member" 16)]), 3, 24, [(@Go.Value.int Go.IntKind.i64 0), (@Go.Value.int Go.IntKind.i64 0), (@Go.Value.bool Bool.false)], true, Bool.true⟩ := ⟨Tryd.underlying75, by kernel_rfl, rfl, rfl, rfl⟩
theorem ti76 : TIOk Tryd.prog 76 ⟨(@Go.TypeDesc.func #[3] #[66] Bool.false), 1, 8, [Go.Value.nilFunc], false, Bool.false⟩ := ⟨Tryd.underlying76, by kernel_rfl, rfl, rfl, rfl⟩
theorem ti77 : TIOk Tryd.prog 77 ⟨(@Go.TypeDesc.func #[34, 3] #[34] Bool.false), 1, 8, [Go.Value.nilFunc], false, Bool.false⟩ := ⟨Tryd.underlying77, by kernel_rfl, rfl, rfl, rfl⟩
theorem ti78 : TIOk Tryd.prog 78 ⟨(@Go.TypeDesc.func #[9, 3, 26] #[26] Bool.false), 1, 8, [Go.Value.nilFunc], false, Bool.false⟩ := ⟨Tryd.underlying78, by kernel_rfl, rfl, rfl, rfl⟩
theorem ti79 : TIOk Tryd.prog 79 ⟨(@Go.TypeDesc.func #[34, 9] #[34] Bool.false), 1, 8, [Go.Value.nilFunc], false, Bool.false⟩ := ⟨Tryd.underlying79, by kernel_rfl, rfl, rfl, rfl⟩
theorem ti80 : TIOk Tryd.prog 80 ⟨(@Go.TypeDesc.tuple #[34, 4]), 1, 0, [(@Go.Value.tuple #[(@Go.Value.slice none 0 0), (@Go.Value.bool Bool.false)])], false, Bool.false⟩ := ⟨Tryd.underlying80, by kernel_rfl, rfl, rfl, rfl⟩
theorem ti81 : TIOk Tryd.prog 81 ⟨(@Go.TypeDesc.func #[34] #[34, 4] Bool.false), 1, 8, [Go.Value.nilFunc], false, Bool.false⟩ := ⟨Tryd.underlying81, by kernel_rfl, rfl, rfl, rfl⟩
theorem ti82 : TIOk Tryd.prog 82 ⟨(@Go.TypeDesc.func #[3, 38] #[9] Bool.false), 1, 8, [Go.Value.nilFunc], false, Bool.false⟩ := ⟨Tryd.underlying82, by kernel_rfl, rfl, rfl, rfl⟩
theorem ti83 : TIOk Tryd.prog 83 ⟨(@Go.TypeDesc.slice 85), 1, 24, [(@Go.Value.slice none 0 0)], false, Bool.false⟩ := ⟨Tryd.underlying83, by kernel_rfl, rfl, rfl, rfl⟩
theorem ti84 : TIOk Tryd.prog 84 ⟨(@Go.TypeDesc.func #[26] #[83] Bool.false), 1, 8, [Go.Value.nilFunc], false, Bool.false⟩ := ⟨Tryd.underlying84, by kernel_rfl, rfl, rfl, rfl⟩
theorem ti85 : TIOk Tryd.prog 85 ⟨(@Go.TypeDesc.pointer 87), 1, 8, [(@Go.Value.pointer none)], false, Bool.true⟩ := ⟨Tryd.underlying85, by kernel_rfl, rfl, rfl, rfl⟩
theorem ti86 : TIOk Tryd.prog 86 ⟨(@Go.TypeDesc.struct #[(@Go.Field.mk "Op" 9 0 Bool.false "" "" 0), (@Go.Field.mk "At" 3 1 Bool.false "" "" 16), (@Go.Field.mk "Err" 26 2 Bool.false "" "" 24)]), 3, 40, [(@Go.Value.string (@ByteArray.mk #[])), (@Go.Value.int Go.IntKind.i64 0), Go.Value.nilIface], true, Bool.true⟩ := ⟨Tryd.underlying86, by kernel_rfl, rfl, rfl, rfl⟩
theorem ti87 : TIOk Tryd.prog 87 ⟨(@Go.TypeDesc.struct #[(@Go.Field.mk "Op" 9 0 Bool.false "" "" 0), (@Go.Field.mk "At" 3 1 Bool.false "" "" 16), (@Go.Field.mk "Err" 26 2 Bool.false "" "" 24)]), 3, 40, [(@Go.Value.string (@ByteArray.mk #[])), (@Go.Value.int Go.IntKind.i64 0), Go.Value.nilIface], true, Bool.true⟩ := ⟨Tryd.underlying87, by kernel_rfl, rfl, rfl, rfl⟩
theorem ti88 : TIOk Tryd.prog 88 ⟨(@Go.TypeDesc.array 4 3), 4, 32, [(@Go.Value.int Go.IntKind.i64 0), (@Go.Value.int Go.IntKind.i64 0), (@Go.Value.int Go.IntKind.i64 0), (@Go.Value.int Go.IntKind.i64 0)], true, Bool.true⟩ := ⟨Tryd.underlying88, by kernel_rfl, rfl, rfl, rfl⟩
theorem ti89 : TIOk Tryd.prog 89 ⟨(@Go.TypeDesc.slice 94), 1, 24, [(@Go.Value.slice none 0 0)], false, Bool.false⟩ := ⟨Tryd.underlying89, by kernel_rfl, rfl, rfl, rfl⟩
theorem ti90 : TIOk Tryd.prog 90 ⟨(@Go.TypeDesc.struct #[(@Go.Field.mk "First" 88 0 Bool.false "" "" 0), (@Go.Field.mk "L" 89 4 Bool.false "" "" 32)]), 5, 56, [(@Go.Value.int Go.IntKind.i64 0), (@Go.Value.int Go.IntKind.i64 0), (@Go.Value.int Go.IntKind.i64 0), (@Go.Value.int Go.IntKind.i64 0), (@Go.Value.slice none 0 0)], true, Bool.false⟩ := ⟨Tryd.underlying90, by kernel_rfl, rfl, rfl, rfl⟩
theorem ti91 : TIOk Tryd.prog 91 ⟨(@Go.TypeDesc.struct #[(@Go.Field.mk "First" 88 0 Bool.false "" "" 0), (@Go.Field.mk "L" 89 4 Bool.false "" "" 32)]), 5, 56, [(@Go.Value.int Go.IntKind.i64 0), (@Go.Value.int Go.IntKind.i64 0), (@Go.Value.int Go.IntKind.i64 0), (@Go.Value.int Go.IntKind.i64 0), (@Go.Value.slice none 0 0)], true, Bool.false⟩ := ⟨Tryd.underlying91, by kernel_rfl, rfl, rfl, rfl⟩
theorem ti92 : TIOk Tryd.prog 92 ⟨(@Go.TypeDesc.func #[75] #[26] Bool.false), 1, 8, [Go.Value.nilFunc], false, Bool.false⟩ := ⟨Tryd.underlying92, by kernel_rfl, rfl, rfl, rfl⟩
theorem ti93 : TIOk Tryd.prog 93 ⟨(@Go.TypeDesc.struct #[(@Go.Field.mk "Mark" 3 0 Bool.false "" "" 0), (@Go.Field.mk "Volume" 3 1 Bool.false "" "" 8), (@Go.Field.mk "Gone" 4 2 Bool.false "" "" 16)]), 3, 24, [(@Go.Value.int Go.IntKind.i64 0), (@Go.Value.int Go.IntKind.i64 0), (@Go.Value.bool Bool.false)], true, Bool.true⟩ := ⟨Tryd.underlying93, by kernel_rfl, rfl, rfl, rfl⟩
theorem ti94 : TIOk Tryd.prog 94 ⟨(@Go.TypeDesc.struct #[(@Go.Field.mk "Mark" 3 0 Bool.false "" "" 0), (@Go.Field.mk "Volume" 3 1 Bool.false "" "" 8), (@Go.Field.mk "Gone" 4 2 Bool.false "" "" 16)]), 3, 24, [(@Go.Value.int Go.IntKind.i64 0), (@Go.Value.int Go.IntKind.i64 0), (@Go.Value.bool Bool.false)], true, Bool.true⟩ := ⟨Tryd.underlying94, by kernel_rfl, rfl, rfl, rfl⟩
theorem ti95 : TIOk Tryd.prog 95 ⟨(@Go.TypeDesc.func #[3] #[9] Bool.false), 1, 8, [Go.Value.nilFunc], false, Bool.false⟩ := ⟨Tryd.underlying95, by kernel_rfl, rfl, rfl, rfl⟩
theorem ti96 : TIOk Tryd.prog 96 ⟨(@Go.TypeDesc.pointer 122), 1, 8, [(@Go.Value.pointer none)], false, Bool.true⟩ := ⟨Tryd.underlying96, by kernel_rfl, rfl, rfl, rfl⟩
theorem ti97 : TIOk Tryd.prog 97 ⟨(@Go.TypeDesc.func #[34] #[96] Bool.false), 1, 8, [Go.Value.nilFunc], false, Bool.false⟩ := ⟨Tryd.underlying97, by kernel_rfl, rfl, rfl, rfl⟩
theorem ti98 : TIOk Tryd.prog 98 ⟨(@Go.TypeDesc.func #[] #[29] Bool.false), 1, 8, [Go.Value.nilFunc], false, Bool.false⟩ := ⟨Tryd.underlying98, by kernel_rfl, rfl, rfl, rfl⟩
theorem ti99 : TIOk Tryd.prog 99 ⟨(@Go.TypeDesc.pointer 101), 1, 8, [(@Go.Value.pointer none)], false, Bool.true⟩ := ⟨Tryd.underlying99, by kernel_rfl, rfl, rfl, rfl⟩
theorem ti100 : TIOk Tryd.prog 100 ⟨(@Go.TypeDesc.struct #[(@Go.Field.mk "B" 9 0 Bool.false "" "" 0), (@Go.Field.mk "E" 3 1 Bool.false "" "" 16)]), 2, 24, [(@Go.Value.string (@ByteArray.mk #[])), (@Go.Value.int Go.IntKind.i64 0)], true, Bool.true⟩ := ⟨Tryd.underlying100, by kernel_rfl, rfl, rfl, rfl⟩
theorem ti101 : TIOk Tryd.prog 101 ⟨(@Go.TypeDesc.struct #[(@Go.Field.mk "B" 9 0 Bool.false "" "" 0), (@Go.Field.mk "E" 3 1 Bool.false "" "" 16)]), 2, 24, [(@Go.Value.string (@ByteArray.mk #[])), (@Go.Value.int Go.IntKind.i64 0)], true, Bool.true⟩ := ⟨Tryd.underlying101, by kernel_rfl, rfl, rfl, rfl⟩
theorem ti102 : TIOk Tryd.prog 102 ⟨Go.TypeDesc.unsafePointer, 1, 8, [(@Go.Value.pointer none)], false, Bool.true⟩ := ⟨Tryd.underlying102, by kernel_rfl, rfl, rfl, rfl⟩
theorem ti103 : TIOk Tryd.prog 103 ⟨(@Go.TypeDesc.int Go.IntKind.u64), 1, 8, [(@Go.Value.int Go.IntKind.u64 0)], false, Bool.true⟩ := ⟨Tryd.underlying103, by kernel_rfl, rfl, rfl, rfl⟩
theorem ti104 : TIOk Tryd.prog 104 ⟨(@Go.TypeDesc.struct #[(@Go.Field.mk "typ_" 17 0 Bool.false "" "internal/reflectlite" 0), (@Go.Field.mk "ptr" 102 1 Bool.false "" "internal/reflectlite" 8), (@Go.Field.mk "flag" 103 2 Bool.true "" "internal/reflectlite" 16)]), 3, 24, [(@Go.Value.pointer none), (@Go.Value.pointer none), (@Go.Value.int Go.IntKind.u64 0)], true, Bool.true⟩ := ⟨Tryd.underlying104, by kernel_rfl, rfl, rfl, rfl⟩
theorem ti105 : TIOk Tryd.prog 105 ⟨(@Go.TypeDesc.struct #[(@Go.Field.mk "typ_" 17 0 Bool.false "" "internal/reflectlite" 0), (@Go.Field.mk "ptr" 102 1 Bool.false "" "internal/reflectlite" 8), (@Go.Field.mk "flag" 103 2 Bool.true "" "internal/reflectlite" 16)]), 3, 24, [(@Go.Value.pointer none), (@Go.Value.pointer none), (@Go.Value.int Go.IntKind.u64 0)], true, Bool.true⟩ := ⟨Tryd.underlying105, by kernel_rfl, rfl, rfl, rfl⟩
theorem ti106 : TIOk Tryd.prog 106 ⟨(@Go.TypeDesc.func #[20] #[105] Bool.false), 1, 8, [Go.Value.nilFunc], false, Bool.false⟩ := ⟨Tryd.underlying106, by kernel_rfl, rfl, rfl, rfl⟩
theorem ti107 : TIOk Tryd.prog 107 ⟨(@Go.TypeDesc.interface #[("AssignableTo", 112), ("Comparable", 23), ("Elem", 109), ("Implements", 112), ("Kind", 111), ("Name", 57), ("PkgPath", 57), ("Size", 158), ("String", 57), ("internal/reflectlite.common", 150), ("internal/reflectlite.uncommon", 159)]), 1, 16, [Go.Value.nilIface], false, Bool.true⟩ := ⟨Tryd.underlying107, by kernel_rfl, rfl, rfl, rfl⟩
theorem ti108 : TIOk Tryd.prog 108 ⟨(@Go.TypeDesc.interface #[("AssignableTo", 112), ("Comparable", 23), ("Elem", 109), ("Implements", 112), ("Kind", 111), ("Name", 57), ("PkgPath", 57), ("Size", 158), ("String", 57), ("internal/reflectlite.common", 150), ("internal/reflectlite.uncommon", 159)]), 1, 16, [Go.Value.nilIface], false, Bool.true⟩ := ⟨Tryd.underlying108, by kernel_rfl, rfl, rfl, rfl⟩
theorem ti109 : TIOk Tryd.prog 109 ⟨(@Go.TypeDesc.func #[] #[108] Bool.false), 1, 8, [Go.Value.nilFunc], false, Bool.false⟩ := ⟨Tryd.underlying109, by kernel_rfl, rfl, rfl, rfl⟩
theorem ti110 : TIOk Tryd.prog 110 ⟨(@Go.TypeDesc.int Go.IntKind.u8), 1, 1, [(@Go.Value.int Go.IntKind.u8 0)], false, Bool.true⟩ := ⟨Tryd.underlying110, by kernel_rfl, rfl, rfl, rfl⟩
theorem ti111 : TIOk Tryd.prog 111 ⟨(@Go.TypeDesc.func #[] #[110] Bool.false), 1, 8, [Go.Value.nilFunc], false, Bool.false⟩ := ⟨Tryd.underlying111, by kernel_rfl, rfl, rfl, rfl⟩
theorem ti112 : TIOk Tryd.prog 112 ⟨(@Go.TypeDesc.func #[108] #[4] Bool.false), 1, 8, [Go.Value.nilFunc], false, Bool.false⟩ := ⟨Tryd.underlying112, by kernel_rfl, rfl, rfl, rfl⟩
theorem ti113 : TIOk Tryd.prog 113 ⟨(@Go.TypeDesc.func #[26, 20, 105, 108] #[4] Bool.false), 1, 8, [Go.Value.nilFunc], false, Bool.false⟩ := ⟨Tryd.underlying113, by kernel_rfl, rfl, rfl, rfl⟩
theorem ti114 : TIOk Tryd.prog 114 ⟨(@Go.TypeDesc.int Go.IntKind.u64), 1, 8, [(@Go.Value.int Go.IntKind.u64 0)], false, Bool.true⟩ := ⟨Tryd.underlying114, by kernel_rfl, rfl, rfl, rfl⟩
theorem ti115 : TIOk Tryd.prog 115 ⟨(@Go.TypeDesc.func #[34] #[34] Bool.false), 1, 8, [Go.Value.nilFunc], false, Bool.false⟩ := ⟨Tryd.underlying115, by kernel_rfl, rfl, rfl, rfl⟩
theorem ti116 : TIOk Tryd.prog 116 ⟨(@Go.TypeDesc.func #[139] #[34] Bool.true), 1, 8, [Go.Value.nilFunc], false, Bool.false⟩ := ⟨Tryd.underlying116, by kernel_rfl, rfl, rfl, rfl⟩
theorem ti117 : TIOk Tryd.prog 117 ⟨(@Go.TypeDesc.func #[9] #[9] Bool.false), 1, 8, [Go.Value.nilFunc], false, Bool.false⟩ := ⟨Tryd.underlying117, by kernel_rfl, rfl, rfl, rfl⟩
theorem ti118 : TIOk Tryd.prog 118 ⟨(@Go.TypeDesc.tuple #[9, 4]), 1, 0, [(@Go.Value.tuple #[(@Go.Value.string (@ByteArray.mk #[])), (@Go.Value.bool Bool.false)])], false, Bool.false⟩ := ⟨Tryd.underlying118, by kernel_rfl, rfl, rfl, rfl⟩
theorem ti119 : TIOk Tryd.prog 119 ⟨(@Go.TypeDesc.func #[9] #[9, 4] Bool.false), 1, 8, [Go.Value.nilFunc], false, Bool.false⟩ := ⟨Tryd.underlying119, by kernel_rfl, rfl, rfl, rfl⟩
theorem ti120 : TIOk Tryd.prog 120 ⟨(@Go.TypeDesc.pointer 85), 1, 8, [(@Go.Value.pointer none)], false, Bool.true⟩ := ⟨Tryd.underlying120, by kernel_rfl, rfl, rfl, rfl⟩
theorem ti121 : TIOk Tryd.prog 121 ⟨(@Go.TypeDesc.struct #[(@Go.Field.mk "b" 34 0 Bool.false "" "isobar/pack" 0), (@Go.Field.mk "err" 29 1 Bool.false "" "isobar/pack" 24)]), 2, 32, [(@Go.Value.slice none 0 0), (@Go.Value.int Go.IntKind.i64 0)], true, Bool.false⟩ := ⟨Tryd.underlying121, by kernel_rfl, rfl, rfl, rfl⟩
theorem ti122 : TIOk Tryd.prog 122 ⟨(@Go.TypeDesc.struct #[(@Go.Field.mk "b" 34 0 Bool.false "" "isobar/pack" 0), (@Go.Field.mk "err" 29 1 Bool.false "" "isobar/pack" 24)]), 2, 32, [(@Go.Value.slice none 0 0), (@Go.Value.int Go.IntKind.i64 0)], true, Bool.false⟩ := ⟨Tryd.underlying122, by kernel_rfl, rfl, rfl, rfl⟩
theorem ti123 : TIOk Tryd.prog 123 ⟨(@Go.TypeDesc.func #[29] #[3] Bool.false), 1, 8, [Go.Value.nilFunc], false, Bool.false⟩ := ⟨Tryd.underlying123, by kernel_rfl, rfl, rfl, rfl⟩
theorem ti124 : TIOk Tryd.prog 124 ⟨(@Go.TypeDesc.func #[3] #[] Bool.false), 1, 8, [Go.Value.nilFunc], false, Bool.false⟩ := ⟨Tryd.underlying124, by kernel_rfl, rfl, rfl, rfl⟩
theorem ti125 : TIOk Tryd.prog 125 ⟨(@Go.TypeDesc.struct #[(@Go.Field.mk "Type" 17 0 Bool.true "" "" 0)]), 1, 8, [(@Go.Value.pointer none)], true, Bool.true⟩ := ⟨Tryd.underlying125, by kernel_rfl, rfl, rfl, rfl⟩
theorem ti126 : TIOk Tryd.prog 126 ⟨(@Go.TypeDesc.struct #[(@Go.Field.mk "Type" 17 0 Bool.true "" "" 0)]), 1, 8, [(@Go.Value.pointer none)], true, Bool.true⟩ := ⟨Tryd.underlying126, by kernel_rfl, rfl, rfl, rfl⟩
theorem ti127 : TIOk Tryd.prog 127 ⟨(@Go.TypeDesc.pointer 161), 1, 8, [(@Go.Value.pointer none)], false, Bool.true⟩ := ⟨Tryd.underlying127, by kernel_rfl, rfl, rfl, rfl⟩
theorem ti128 : TIOk Tryd.prog 128 ⟨(@Go.TypeDesc.func #[20] #[108] Bool.false), 1, 8, [Go.Value.nilFunc], false, Bool.false⟩ := ⟨Tryd.underlying128, by kernel_rfl, rfl, rfl, rfl⟩
theorem ti129 : TIOk Tryd.prog 129 ⟨(@Go.TypeDesc.func #[] #[105] Bool.false), 1, 8, [Go.Value.nilFunc], false, Bool.false⟩ := ⟨Tryd.underlying129, by kernel_rfl, rfl, rfl, rfl⟩
theorem ti130 : TIOk Tryd.prog 130 ⟨(@Go.TypeDesc.func #[105] #[] Bool.false), 1, 8, [Go.Value.nilFunc], false, Bool.false⟩ := ⟨Tryd.underlying130, by kernel_rfl, rfl, rfl, rfl⟩
theorem ti131 : TIOk Tryd.prog 131 ⟨(@Go.TypeDesc.interface #[("As", 133)]), 1, 16, [Go.Value.nilIface], false, Bool.true⟩ := ⟨Tryd.underlying131, by kernel_rfl, rfl, rfl, rfl⟩
theorem ti132 : TIOk Tryd.prog 132 ⟨(@Go.TypeDesc.tuple #[131, 4]), 1, 0, [(@Go.Value.tuple #[Go.Value.nilIface, (@Go.Value.bool Bool.false)])], false, Bool.false⟩ := ⟨Tryd.underlying132, by kernel_rfl, rfl, rfl, rfl⟩
theorem ti133 : TIOk Tryd.prog 133 ⟨(@Go.TypeDesc.func #[20] #[4] Bool.false), 1, 8, [Go.Value.nilFunc], false, Bool.false⟩ := ⟨Tryd.underlying133, by kernel_rfl, rfl, rfl, rfl⟩
theorem ti134 : TIOk Tryd.prog 134 ⟨(@Go.TypeDesc.interface #[("Unwrap", 135)]), 1, 16, [Go.Value.nilIface], false, Bool.true⟩ := ⟨Tryd.underlying134, by kernel_rfl, rfl, rfl, rfl⟩
theorem ti135 : TIOk Tryd.prog 135 ⟨(@Go.TypeDesc.func #[] #[26] Bool.false), 1, 8, [Go.Value.nilFunc], false, Bool.false⟩ := ⟨Tryd.underlying135, by kernel_rfl, rfl, rfl, rfl⟩
theorem ti136 : TIOk Tryd.prog 136 ⟨(@Go.TypeDesc.interface #[("Unwrap", 138)]), 1, 16, [Go.Value.nilIface], false, Bool.true⟩ := ⟨Tryd.underlying136, by kernel_rfl, rfl, rfl, rfl⟩
theorem ti137 : TIOk Tryd.prog 137 ⟨(@Go.TypeDesc.slice 26), 1, 24, [(@Go.Value.slice none 0 0)], false, Bool.false⟩ := ⟨Tryd.underlying137, by kernel_rfl, rfl, rfl, rfl⟩
theorem ti138 : TIOk Tryd.prog 138 ⟨(@Go.TypeDesc.func #[] #[137] Bool.false), 1, 8, [Go.Value.nilFunc], false, Bool.false⟩ := ⟨Tryd.underlying138, by kernel_rfl, rfl, rfl, rfl⟩
theorem ti139 : TIOk Tryd.prog 139 ⟨(@Go.TypeDesc.slice 34), 1, 24, [(@Go.Value.slice none 0 0)], false, Bool.false⟩ := ⟨Tryd.underlying139, by kernel_rfl, rfl, rfl, rfl⟩
theorem ti140 : TIOk Tryd.prog 140 ⟨(@Go.TypeDesc.int Go.IntKind.u32), 1, 4, [(@Go.Value.int Go.IntKind.u32 0)], false, Bool.true⟩ := ⟨Tryd.underlying140, by kernel_rfl, rfl, rfl, rfl⟩
theorem ti141 : TIOk Tryd.prog 141 ⟨(@Go.TypeDesc.func #[34] #[140] Bool.false), 1, 8, [Go.Value.nilFunc], false, Bool.false⟩ := ⟨Tryd.underlying141, by kernel_rfl, rfl, rfl, rfl⟩
theorem ti142 : TIOk Tryd.prog 142 ⟨(@Go.TypeDesc.func #[9] #[140] Bool.false), 1, 8, [Go.Value.nilFunc], false, Bool.false⟩ := ⟨Tryd.underlying142, by kernel_rfl, rfl, rfl, rfl⟩
theorem ti143 : TIOk Tryd.prog 143 ⟨(@Go.TypeDesc.func #[140] #[140] Bool.false), 1, 8, [Go.Value.nilFunc], false, Bool.false⟩ := ⟨Tryd.underlying143, by kernel_rfl, rfl, rfl, rfl⟩
theorem ti144 : TIOk Tryd.prog 144 ⟨(@Go.TypeDesc.array 16 140), 16, 64, [(@Go.Value.int Go.IntKind.u32 0), (@Go.Value.int Go.IntKind.u32 0), (@Go.Value.int Go.IntKind.u32 0), (@Go.Value.int Go.IntKind.u32 0), (@Go.Value.int Go.IntKind.u32 0), (@Go.Value.int Go.IntKind.u32 0), (@Go.Value.int Go.IntKind.u32 0), (@Go.Value.int Go.IntKind.u32 0), (@Go.Value.int Go.IntKind.u32 0), (@Go.Value.int Go.IntKind.u32 0), (@Go.Value.int Go.IntKind.u32 0), (@Go.Value.int Go.IntKind.u32 0), (@Go.Value.int Go.IntKind.u32 0), (@Go.Value.int Go.IntKind.u32 0), (@Go.Value.int Go.IntKind.u32 0), (@Go.Value.int Go.IntKind.u32 0)], true, Bool.true⟩ := ⟨Tryd.underlying144, by kernel_rfl, rfl, rfl, rfl⟩
theorem ti145 : TIOk Tryd.prog 145 ⟨(@Go.TypeDesc.struct #[(@Go.Field.mk "_interface" 17 0 Bool.false "" "runtime" 0), (@Go.Field.mk "concrete" 17 1 Bool.false "" "runtime" 8), (@Go.Field.mk "asserted" 17 2 Bool.false "" "runtime" 16), (@Go.Field.mk "missingMethod" 9 3 Bool.false "" "runtime" 24)]), 4, 40, [(@Go.Value.pointer none), (@Go.Value.pointer none), (@Go.Value.pointer none), (@Go.Value.string (@ByteArray.mk #[]))], true, Bool.true⟩ := ⟨Tryd.underlying145, by kernel_rfl, rfl, rfl, rfl⟩
theorem ti146 : TIOk Tryd.prog 146 ⟨(@Go.TypeDesc.struct #[(@Go.Field.mk "_interface" 17 0 Bool.false "" "runtime" 0), (@Go.Field.mk "concrete" 17 1 Bool.false "" "runtime" 8), (@Go.Field.mk "asserted" 17 2 Bool.false "" "runtime" 16), (@Go.Field.mk "missingMethod" 9 3 Bool.false "" "runtime" 24)]), 4, 40, [(@Go.Value.pointer none), (@Go.Value.pointer none), (@Go.Value.pointer none), (@Go.Value.string (@ByteArray.mk #[]))], true, Bool.true⟩ := ⟨Tryd.underlying146, by kernel_rfl, rfl, rfl, rfl⟩
theorem ti147 : TIOk Tryd.prog 147 ⟨(@Go.TypeDesc.array 0 16), 0, 0, [], true, Bool.true⟩ := ⟨Tryd.underlying147, by kernel_rfl, rfl, rfl, rfl⟩
theorem ti148 : TIOk Tryd.prog 148 ⟨(@Go.TypeDesc.struct #[(@Go.Field.mk "_" 147 0 Bool.false "" "runtime" 0)]), 0, 0, [], true, Bool.true⟩ := ⟨Tryd.underlying148, by kernel_rfl, rfl, rfl, rfl⟩
theorem ti149 : TIOk Tryd.prog 149 ⟨(@Go.TypeDesc.struct #[(@Go.Field.mk "_" 147 0 Bool.false "" "runtime" 0)]), 0, 0, [], true, Bool.true⟩ := ⟨Tryd.underlying149, by kernel_rfl, rfl, rfl, rfl⟩
theorem ti150 : TIOk Tryd.prog 150 ⟨(@Go.TypeDesc.func #[] #[17] Bool.false), 1, 8, [Go.Value.nilFunc], false, Bool.false⟩ := ⟨Tryd.underlying150, by kernel_rfl, rfl, rfl, rfl⟩
theorem ti151 : TIOk Tryd.prog 151 ⟨(@Go.TypeDesc.int Go.IntKind.u8), 1, 1, [(@Go.Value.int Go.IntKind.u8 0)], false, Bool.true⟩ := ⟨Tryd.underlying151, by kernel_rfl, rfl, rfl, rfl⟩
theorem ti152 : TIOk Tryd.prog 152 ⟨(@Go.TypeDesc.func #[102, 102] #[4] Bool.false), 1, 8, [Go.Value.nilFunc], false, Bool.false⟩ := ⟨Tryd.underlying152, by kernel_rfl, rfl, rfl, rfl⟩
theorem ti153 : TIOk Tryd.prog 153 ⟨(@Go.TypeDesc.pointer 5), 1, 8, [(@Go.Value.pointer none)], false, Bool.true⟩ := ⟨Tryd.underlying153, by kernel_rfl, rfl, rfl, rfl⟩
theorem ti154 : TIOk Tryd.prog 154 ⟨(@Go.TypeDesc.int Go.IntKind.i32), 1, 4, [(@Go.Value.int Go.IntKind.i32 0)], false, Bool.true⟩ := ⟨Tryd.underlying154, by kernel_rfl, rfl, rfl, rfl⟩
theorem ti155 : TIOk Tryd.prog 155 ⟨(@Go.TypeDesc.int Go.IntKind.i32), 1, 4, [(@Go.Value.int Go.IntKind.i32 0)], false, Bool.true⟩ := ⟨Tryd.underlying155, by kernel_rfl, rfl, rfl, rfl⟩
theorem ti156 : TIOk Tryd.prog 156 ⟨(@Go.TypeDesc.struct #[(@Go.Field.mk "Size_" 12 0 Bool.false "" "" 0), (@Go.Field.mk "PtrBytes" 12 1 Bool.false "" "" 8), (@Go.Field.mk "Hash" 140 2 Bool.false "" "" 16), (@Go.Field.mk "TFlag" 151 3 Bool.false "" "" 20), (@Go.Field.mk "Align_" 5 4 Bool.false "" "" 21), (@Go.Field.mk "FieldAlign_" 5 5 Bool.false "" "" 22), (@Go.Field.mk "Kind_" 110 6 Bool.false "" "" 23), (@Go.Field.mk "Equal" 152 7 Bool.false "" "" 24), (@Go.Field.mk "GCData" 153 8 Bool.false "" "" 32), (@Go.Field.mk "Str" 154 9 Bool.false "" "" 40), (@Go.Field.mk "PtrToThis" 155 10 Bool.false "" "" 44)]), 11, 48, [(@Go.Value.int Go.IntKind.u64 0), (@Go.Value.int Go.IntKind.u64 0), (@Go.Value.int Go.IntKind.u32 0), (@Go.Value.int Go.IntKind.u8 0), (@Go.Value.int Go.IntKind.u8 0), (@Go.Value.int Go.IntKind.u8 0), (@Go.Value.int Go.IntKind.u8 0), Go.Value.nilFunc, (@Go.Value.pointer none), (@Go.Value.int Go.IntKind.i32 0), (@Go.Value.int Go.IntKind.i32 0)], true, Bool.false⟩ := ⟨Tryd.underlying156, by kernel_rfl, rfl, rfl, rfl⟩
theorem ti157 : TIOk Tryd.prog 157 ⟨(@Go.TypeDesc.struct #[(@Go.Field.mk "Size_" 12 0 Bool.false "" "" 0), (@Go.Field.mk "PtrBytes" 12 1 Bool.false "" "" 8), (@Go.Field.mk "Hash" 140 2 Bool.false "" "" 16), (@Go.Field.mk "TFlag" 151 3 Bool.false "" "" 20), (@Go.Field.mk "Align_" 5 4 Bool.false "" "" 21), (@Go.Field.mk "FieldAlign_" 5 5 Bool.false "" "" 22), (@Go.Field.mk "Kind_" 110 6 Bool.false "" "" 23), (@Go.Field.mk "Equal" 152 7 Bool.false "" "" 24), (@Go.Field.mk "GCData" 153 8 Bool.false "" "" 32), (@Go.Field.mk "Str" 154 9 Bool.false "" "" 40), (@Go.Field.mk "PtrToThis" 155 10 Bool.false "" "" 44)]), 11, 48, [(@Go.Value.int Go.IntKind.u64 0), (@Go.Value.int Go.IntKind.u64 0), (@Go.Value.int Go.IntKind.u32 0), (@Go.Value.int Go.IntKind.u8 0), (@Go.Value.int Go.IntKind.u8 0), (@Go.Value.int Go.IntKind.u8 0), (@Go.Value.int Go.IntKind.u8 0), Go.Value.nilFunc, (@Go.Value.pointer none), (@Go.Value.int Go.IntKind.i32 0), (@Go.Value.int Go.IntKind.i32 0)], true, Bool.false⟩ := ⟨Tryd.underlying157, by kernel_rfl, rfl, rfl, rfl⟩
theorem ti158 : TIOk Tryd.prog 158 ⟨(@Go.TypeDesc.func #[] #[12] Bool.false), 1, 8, [Go.Value.nilFunc], false, Bool.false⟩ := ⟨Tryd.underlying158, by kernel_rfl, rfl, rfl, rfl⟩
theorem ti159 : TIOk Tryd.prog 159 ⟨(@Go.TypeDesc.func #[] #[162] Bool.false), 1, 8, [Go.Value.nilFunc], false, Bool.false⟩ := ⟨Tryd.underlying159, by kernel_rfl, rfl, rfl, rfl⟩
theorem ti160 : TIOk Tryd.prog 160 ⟨(@Go.TypeDesc.struct #[(@Go.Field.mk "Method" 9 0 Bool.false "" "" 0), (@Go.Field.mk "Kind" 110 1 Bool.false "" "" 16)]), 2, 24, [(@Go.Value.string (@ByteArray.mk #[])), (@Go.Value.int Go.IntKind.u8 0)], true, Bool.true⟩ := ⟨Tryd.underlying160, by kernel_rfl, rfl, rfl, rfl⟩
theorem ti161 : TIOk Tryd.prog 161 ⟨(@Go.TypeDesc.struct #[(@Go.Field.mk "Method" 9 0 Bool.false "" "" 0), (@Go.Field.mk "Kind" 110 1 Bool.false "" "" 16)]), 2, 24, [(@Go.Value.string (@ByteArray.mk #[])), (@Go.Value.int Go.IntKind.u8 0)], true, Bool.true⟩ := ⟨Tryd.underlying161, by kernel_rfl, rfl, rfl, rfl⟩
theorem ti162 : TIOk Tryd.prog 162 ⟨(@Go.TypeDesc.pointer 166), 1, 8, [(@Go.Value.pointer none)], false, Bool.true⟩ := ⟨Tryd.underlying162, by kernel_rfl, rfl, rfl, rfl⟩
theorem ti163 : TIOk Tryd.prog 163 ⟨(@Go.TypeDesc.func #[] #[167] Bool.false), 1, 8, [Go.Value.nilFunc], false, Bool.false⟩ := ⟨Tryd.underlying163, by kernel_rfl, rfl, rfl, rfl⟩
theorem ti164 : TIOk Tryd.prog 164 ⟨(@Go.TypeDesc.int Go.IntKind.u16), 1, 2, [(@Go.Value.int Go.IntKind.u16 0)], false, Bool.true⟩ := ⟨Tryd.underlying164, by kernel_rfl, rfl, rfl, rfl⟩
theorem ti165 : TIOk Tryd.prog 165 ⟨(@Go.TypeDesc.struct #[(@Go.Field.mk "PkgPath" 154 0 Bool.false "" "" 0), (@Go.Field.mk "Mcount" 164 1 Bool.false "" "" 4), (@Go.Field.mk "Xcount" 164 2 Bool.false "" "" 6), (@Go.Field.mk "Moff" 140 3 Bool.false "" "" 8), (@Go.Field.mk "_" 140 4 Bool.false "" "internal/abi" 12)]), 5, 16, [(@Go.Value.int Go.IntKind.i32 0), (@Go.Value.int Go.IntKind.u16 0), (@Go.Value.int Go.IntKind.u16 0), (@Go.Value.int Go.IntKind.u32 0), (@Go.Value.int Go.IntKind.u32 0)], true, Bool.true⟩ := ⟨Tryd.underlying165, by kernel_rfl, rfl, rfl, rfl⟩
theorem ti166 : TIOk Tryd.prog 166 ⟨(@Go.TypeDesc.struct #[(@Go.Field.mk "PkgPath" 154 0 Bool.false "" "" 0), (@Go.Field.mk "Mcount" 164 1 Bool.false "" "" 4), (@Go.Field.mk "Xcount" 164 2 Bool.false "" "" 6), (@Go.Field.mk "Moff" 140 3 Bool.false "" "" 8), (@Go.Field.mk "_" 140 4 Bool.false "" "internal/abi" 12)]), 5, 16, [(@Go.Value.int Go.IntKind.i32 0), (@Go.Value.int Go.IntKind.u16 0), (@Go.Value.int Go.IntKind.u16 0), (@Go.Value.int Go.IntKind.u32 0), (@Go.Value.int Go.IntKind.u32 0)], true, Bool.true⟩ := ⟨Tryd.underlying166, by kernel_rfl, rfl, rfl, rfl⟩
theorem ti167 : TIOk Tryd.prog 167 ⟨(@Go.TypeDesc.slice 170), 1, 24, [(@Go.Value.slice none 0 0)], false, Bool.false⟩ := ⟨Tryd.underlying167, by kernel_rfl, rfl, rfl, rfl⟩
theorem ti168 : TIOk Tryd.prog 168 ⟨(@Go.TypeDesc.int Go.IntKind.i32), 1, 4, [(@Go.Value.int Go.IntKind.i32 0)], false, Bool.true⟩ := ⟨Tryd.underlying168, by kernel_rfl, rfl, rfl, rfl⟩
theorem ti169 : TIOk Tryd.prog 169 ⟨(@Go.TypeDesc.struct #[(@Go.Field.mk "Name" 154 0 Bool.false "" "" 0), (@Go.Field.mk "Mtyp" 155 1 Bool.false "" "" 4), (@Go.Field.mk "Ifn" 168 2 Bool.false "" "" 8), (@Go.Field.mk "Tfn" 168 3 Bool.false "" "" 12)]), 4, 16, [(@Go.Value.int Go.IntKind.i32 0), (@Go.Value.int Go.IntKind.i32 0), (@Go.Value.int Go.IntKind.i32 0), (@Go.Value.int Go.IntKind.i32 0)], true, Bool.true⟩ := ⟨Tryd.underlying169, by kernel_rfl, rfl, rfl, rfl⟩
theorem ti170 : TIOk Tryd.prog 170 ⟨(@Go.TypeDesc.struct #[(@Go.Field.mk "Name" 154 0 Bool.false "" "" 0), (@Go.Field.mk "Mtyp" 155 1 Bool.false "" "" 4), (@Go.Field.mk "Ifn" 168 2 Bool.false "" "" 8), (@Go.Field.mk "Tfn" 168 3 Bool.false "" "" 12)]), 4, 16, [(@Go.Value.int Go.IntKind.i32 0), (@Go.Value.int Go.IntKind.i32 0), (@Go.Value.int Go.IntKind.i32 0), (@Go.Value.int Go.IntKind.i32 0)], true, Bool.true⟩ := ⟨Tryd.underlying170, by kernel_rfl, rfl, rfl, rfl⟩
theorem ti171 : TIOk Tryd.prog 171 ⟨(@Go.TypeDesc.pointer 26), 1, 8, [(@Go.Value.pointer none)], false, Bool.true⟩ := ⟨Tryd.underlying171, by kernel_rfl, rfl, rfl, rfl⟩
def tab : Tab := (.node 85 ⟨(@Go.TypeDesc.pointer 87), 1, 8, [(@Go.Value.pointer none)], false, Bool.true⟩ (.node 42 ⟨(@Go.TypeDesc.tuple #[9, 3]), 1, 0, [(@Go.Value.tuple #[(@Go.Value.string (@ByteArray.mk #[])), (@Go.Value.int Go.IntKind.i64 0)])], false, Bool.false⟩ (.node 20 ⟨(@Go.TypeDesc.interface #[]), 1, 16, [Go.Value.nilIface], false, Bool.true⟩ (.node 9 ⟨Go.TypeDesc.string, 1, 16, [(@Go.Value.string (@ByteArray.mk #[]))], false, Bool.true⟩ (.node 4 ⟨Go.TypeDesc.bool, 1, 1, [(@Go.Value.bool Bool.false)], false, Bool.true⟩ (.node 1 ⟨(@Go.TypeDesc.func #[] #[] Bool.false), 1, 8, [Go.Value.nilFunc], false, Bool.false⟩ (.node 0 ⟨(@Go.TypeDesc.tuple #[]), 1, 0, [(@Go.Value.tuple #[])], false, Bool.false⟩ .leaf .leaf) (.node 2 ⟨(@Go.TypeDesc.int Go.IntKind.i64), 1, 8, [(@Go.Value.int Go.IntKind.i64 0)], false, Bool.true⟩ .leaf (.node 3 ⟨(@Go.TypeDesc.int Go.IntKind.i64), 1, 8, [(@Go.Value.int Go.IntKind.i64 0)], false, Bool.true⟩ .leaf .leaf))) (.node 6 ⟨(@Go.TypeDesc.int Go.IntKind.u8), 1, 1, [(@Go.Value.int Go.IntKind.u8 0)], false, Bool.true⟩ (.node 5 ⟨(@Go.TypeDesc.int Go.IntKind.u8), 1, 1, [(@Go.Value.int Go.IntKind.u8 0)], false, Bool.true⟩ .leaf .leaf) (.node 7 ⟨(@Go.TypeDesc.struct #[(@Go.Field.mk "x" 2 0 Bool.false "" "runtime" 0), (@Go.Field.mk "y" 3 1 Bool.false "" "runtime" 8), (@Go.Field.mk "signed" 4 2 Bool.false "" "runtime" 16), (@Go.Field.mk "code" 6 3 Bool.false "" "runtime" 17)]), 4, 24, [(@Go.Value.int Go.IntKind.i64 0), (@Go.Value.int Go.IntKind.i64 0), (@Go.Value.bool Bool.false), (@Go.Value.int Go.IntKind.u8 0)], true, Bool.true⟩ .leaf (.node 8 ⟨(@Go.TypeDesc.struct #[(@Go.Field.mk "x" 2 0 Bool.false "" "runtime" 0), (@Go.Field.mk "y" 3 1 Bool.false "" "runtime" 8), (@Go.Field.mk "signed" 4 2 Bool.false "" "runtime" 16), (@Go.Field.mk "code" 6 3 Bool.false "" "runtime" 17)]), 4, 24, [(@Go.Value.int Go.IntKind.i64 0), (@Go.Value.int Go.IntKind.i64 0), (@Go.Value.bool Bool.false), (@Go.Value.int Go.IntKind.u8 0)], true, Bool.true⟩ .leaf .leaf)))) (.node 14 ⟨(@Go.TypeDesc.struct #[(@Go.Field.mk "msg" 9 0 Bool.false "" "runtime" 0), (@Go.Field.mk "addr" 12 1 Bool.false "" "runtime" 16)]), 2, 24, [(@Go.Value.string (@ByteArray.mk #[])), (@Go.Value.int Go.IntKind.u64 0)], true, Bool.true⟩ (.node 11 ⟨Go.TypeDesc.string, 1, 16, [(@Go.Value.string (@ByteArray.mk #[]))], false, Bool.true⟩ (.node 10 ⟨Go.TypeDesc.string, 1, 16, [(@Go.Value.string (@ByteArray.mk #[]))], false, Bool.true⟩ .leaf .leaf) (.node 12 ⟨(@Go.TypeDesc.int Go.IntKind.u64), 1, 8, [(@Go.Value.int Go.IntKind.u64 0)], false, Bool.true⟩ .leaf (.node 13 ⟨(@Go.TypeDesc.struct #[(@Go.Field.mk "msg" 9 0 Bool.false "" "runtime" 0), (@Go.Field.mk "addr" 12 1 Bool.false "" "runtime" 16)]), 2, 24, [(@Go.Value.string (@ByteArray.mk #[])), (@Go.Value.int Go.IntKind.u64 0)], true, Bool.true⟩ .leaf .leaf))) (.node 17 ⟨(@Go.TypeDesc.pointer 157), 1, 8, [(@Go.Value.pointer none)], false, Bool.true⟩ (.node 15 ⟨(@Go.TypeDesc.pointer 146), 1, 8, [(@Go.Value.pointer none)], false, Bool.true⟩ .leaf (.node 16 ⟨(@Go.TypeDesc.pointer 149), 1, 8, [(@Go.Value.pointer none)], false, Bool.true⟩ .leaf .leaf)) (.node 18 ⟨(@Go.TypeDesc.struct #[(@Go.Field.mk "typ" 17 0 Bool.false "" "internal/runtime/maps" 0)]), 1, 8, [(@Go.Value.pointer none)], true, Bool.true⟩ .leaf (.node 19 ⟨(@Go.TypeDesc.struct #[(@Go.Field.mk "typ" 17 0 Bool.false "" "internal/runtime/maps" 0)]), 1, 8, [(@Go.Value.pointer none)], true, Bool.true⟩ .leaf .leaf))))) (.node 31 ⟨(@Go.TypeDesc.func #[3] #[22] Bool.false), 1, 8, [Go.Value.nilFunc], false, Bool.false⟩ (.node 25 ⟨(@Go.TypeDesc.interface #[("Error", 57)]), 1, 16, [Go.Value.nilIface], false, Bool.true⟩ (.node 22 ⟨(@Go.TypeDesc.slice 3), 1, 24, [(@Go.Value.slice none 0 0)], false, Bool.false⟩ (.node 21 ⟨(@Go.TypeDesc.int Go.IntKind.i32), 1, 4, [(@Go.Value.int Go.IntKind.i32 0)], false, Bool.true⟩ .leaf .leaf) (.node 23 ⟨(@Go.TypeDesc.func #[] #[4] Bool.false), 1, 8, [Go.Value.nilFunc], false, Bool.false⟩ .leaf (.node 24 ⟨(@Go.TypeDesc.pointer 69), 1, 8, [(@Go.Value.pointer none)], false, Bool.true⟩ .leaf .leaf))) (.node 28 ⟨(@Go.TypeDesc.func #[22] #[24, 26] Bool.true), 1, 8, [Go.Value.nilFunc], false, Bool.false⟩ (.node 26 ⟨(@Go.TypeDesc.interface #[("Error", 57)]), 1, 16, [Go.Value.nilIface], false, Bool.true⟩ .leaf (.node 27 ⟨(@Go.TypeDesc.tuple #[24, 26]), 1, 0, [(@Go.Value.tuple #[(@Go.Value.pointer none), Go.Value.nilIface])], false, Bool.false⟩ .leaf .leaf)) (.node 29 ⟨(@Go.TypeDesc.int Go.IntKind.i64), 1, 8, [(@Go.Value.int Go.IntKind.i64 0)], false, Bool.true⟩ .leaf (.node 30 ⟨(@Go.TypeDesc.func #[26] #[29] Bool.false), 1, 8, [Go.Value.nilFunc], false, Bool.false⟩ .leaf .leaf)))) (.node 36 ⟨(@Go.TypeDesc.func #[] #[3] Bool.false), 1, 8, [Go.Value.nilFunc], false, Bool.false⟩ (.node 33 ⟨(@Go.TypeDesc.func #[22, 22] #[4] Bool.false), 1, 8, [Go.Value.nilFunc], false, Bool.false⟩ (.node 32 ⟨(@Go.TypeDesc.func #[22, 3] #[4] Bool.false), 1, 8, [Go.Value.nilFunc], false, Bool.false⟩ .leaf .leaf) (.node 34 ⟨(@Go.TypeDesc.slice 5), 1, 24, [(@Go.Value.slice none 0 0)], false, Bool.false⟩ .leaf (.node 35 ⟨(@Go.TypeDesc.func #[] #[34] Bool.false), 1, 8, [Go.Value.nilFunc], false, Bool.false⟩ .leaf .leaf))) (.node 39 ⟨(@Go.TypeDesc.func #[38] #[4] Bool.false), 1, 8, [Go.Value.nilFunc], false, Bool.false⟩ (.node 37 ⟨(@Go.TypeDesc.struct #[(@Go.Field.mk "Seq" 3 0 Bool.false "" "" 0), (@Go.Field.mk "Kind" 3 1 Bool.false "" "" 8), (@Go.Field.mk "Block" 3 2 Bool.false "" "" 16), (@Go.Field.mk "Data" 9 3 Bool.false "" "" 24), (@Go.Field.mk "Number" 3 4 Bool.false "" "" 40)]), 5, 48, [(@Go.Value.int Go.IntKind.i64 0), (@Go.Value.int Go.IntKind.i64 0), (@Go.Value.int Go.IntKind.i64 0), (@Go.Value.string (@ByteArray.mk #[])), (@Go.Value.int Go.IntKind.i64 0)], true, Bool.true⟩ .leaf (.node 38 ⟨(@Go.TypeDesc.struct #[(@Go.Field.mk "Seq" 3 0 Bool.false "" "" 0), (@Go.Field.mk "Kind" 3 1 Bool.false "" "" 8), (@Go.Field.mk "Block" 3 2 Bool.false "" "" 16), (@Go.Field.mk "Data" 9 3 Bool.false "" "" 24), (@Go.Field.mk "Number" 3 4 Bool.false "" "" 40)]), 5, 48, [(@Go.Value.int Go.IntKind.i64 0), (@Go.Value.int Go.IntKind.i64 0), (@Go.Value.int Go.IntKind.i64 0), (@Go.Value.string (@ByteArray.mk #[])), (@Go.Value.int Go.IntKind.i64 0)], true, Bool.true⟩ .leaf .leaf)) (.node 40 ⟨(@Go.TypeDesc.tuple #[34, 26]), 1, 0, [(@Go.Value.tuple #[(@Go.Value.slice none 0 0), Go.Value.nilIface])], false, Bool.false⟩ .leaf (.node 41 ⟨(@Go.TypeDesc.func #[3, 38] #[34, 26] Bool.false), 1, 8, [Go.Value.nilFunc], false, Bool.false⟩ .leaf .leaf)))))) (.node 63 ⟨(@Go.TypeDesc.func #[24, 47] #[] Bool.false), 1, 8, [Go.Value.nilFunc], false, Bool.false⟩ (.node 52 ⟨(@Go.TypeDesc.struct #[(@Go.Field.mk "Kind" 3 0 Bool.false "" "" 0), (@Go.Field.mk "V" 3 1 Bool.false "" "" 8), (@Go.Field.mk "M" 3 2 Bool.false "" "" 16)]), 3, 24, [(@Go.Value.int Go.IntKind.i64 0), (@Go.Value.int Go.IntKind.i64 0), (@Go.Value.int Go.IntKind.i64 0)], true, Bool.true⟩ (.node 47 ⟨(@Go.TypeDesc.slice 53), 1, 24, [(@Go.Value.slice none 0 0)], false, Bool.false⟩ (.node 44 ⟨(@Go.TypeDesc.tuple #[3, 4]), 1, 0, [(@Go.Value.tuple #[(@Go.Value.int Go.IntKind.i64 0), (@Go.Value.bool Bool.false)])], false, Bool.false⟩ (.node 43 ⟨(@Go.TypeDesc.func #[3, 38] #[9, 3] Bool.false), 1, 8, [Go.Value.nilFunc], false, Bool.false⟩ .leaf .leaf) (.node 45 ⟨(@Go.TypeDesc.func #[26, 9] #[3, 4] Bool.false), 1, 8, [Go.Value.nilFunc], false, Bool.false⟩ .leaf (.node 46 ⟨(@Go.TypeDesc.func #[3, 38] #[4] Bool.false), 1, 8, [Go.Value.nilFunc], false, Bool.false⟩ .leaf .leaf))) (.node 49 ⟨(@Go.TypeDesc.tuple #[48, 3, 3]), 1, 0, [(@Go.Value.tuple #[(@Go.Value.pointer none), (@Go.Value.int Go.IntKind.i64 0), (@Go.Value.int Go.IntKind.i64 0)])], false, Bool.false⟩ (.node 48 ⟨(@Go.TypeDesc.pointer 91), 1, 8, [(@Go.Value.pointer none)], false, Bool.true⟩ .leaf .leaf) (.node 50 ⟨(@Go.TypeDesc.func #[22] #[48, 3, 3] Bool.false), 1, 8, [Go.Value.nilFunc], false, Bool.false⟩ .leaf (.node 51 ⟨(@Go.TypeDesc.func #[26, 3, 3] #[4] Bool.false), 1, 8, [Go.Value.nilFunc], false, Bool.false⟩ .leaf .leaf)))) (.node 57 ⟨(@Go.TypeDesc.func #[] #[9] Bool.false), 1, 8, [Go.Value.nilFunc], false, Bool.false⟩ (.node 54 ⟨(@Go.TypeDesc.func #[3, 3] #[26] Bool.false), 1, 8, [Go.Value.nilFunc], false, Bool.false⟩ (.node 53 ⟨(@Go.TypeDesc.struct #[(@Go.Field.mk "Kind" 3 0 Bool.false "" "" 0), (@Go.Field.mk "V" 3 1 Bool.false "" "" 8), (@Go.Field.mk "M" 3 2 Bool.false "" "" 16)]), 3, 24, [(@Go.Value.int Go.IntKind.i64 0), (@Go.Value.int Go.IntKind.i64 0), (@Go.Value.int Go.IntKind.i64 0)], true, Bool.true⟩ .leaf .leaf) (.node 55 ⟨(@Go.TypeDesc.func #[3, 3, 4] #[3] Bool.false), 1, 8, [Go.Value.nilFunc], false, Bool.false⟩ .leaf (.node 56 ⟨(@Go.TypeDesc.func #[] #[22] Bool.false), 1, 8, [Go.Value.nilFunc], false, Bool.false⟩ .leaf .leaf))) (.node 60 ⟨(@Go.TypeDesc.func #[34] #[24, 26] Bool.false), 1, 8, [Go.Value.nilFunc], false, Bool.false⟩ (.node 58 ⟨(@Go.TypeDesc.func #[22, 47, 3] #[4] Bool.false), 1, 8, [Go.Value.nilFunc], false, Bool.false⟩ .leaf (.node 59 ⟨(@Go.TypeDesc.func #[3, 3] #[4] Bool.false), 1, 8, [Go.Value.nilFunc], false, Bool.false⟩ .leaf .leaf)) (.node 61 ⟨(@Go.TypeDesc.tuple #[48, 3]), 1, 0, [(@Go.Value.tuple #[(@Go.Value.pointer none), (@Go.Value.int Go.IntKind.i64 0)])], false, Bool.false⟩ .leaf (.node 62 ⟨(@Go.TypeDesc.func #[9] #[48, 3] Bool.false), 1, 8, [Go.Value.nilFunc], false, Bool.false⟩ .leaf .leaf))))) (.node 74 ⟨(@Go.TypeDesc.struct #[(@Go.Field.mk "mark" 3 0 Bool.false "" "isobar/member" 0), (@Go.Field.mk "volume" 3 1 Bool.false "" "isobar/member" 8), (@Go.Field.mk "gone" 4 2 Bool.false "" "isobar/member" 16)]), 3, 24, [(@Go.Value.int Go.IntKind.i64 0), (@Go.Value.int Go.IntKind.i64 0), (@Go.Value.bool Bool.false)], true, Bool.true⟩ (.node 68 ⟨(@Go.TypeDesc.struct #[(@Go.Field.mk "first" 66 0 Bool.false "" "isobar/member" 0), (@Go.Field.mk "changes" 67 4 Bool.false "" "isobar/member" 8)]), 5, 32, [(@Go.Value.bool Bool.false), (@Go.Value.bool Bool.false), (@Go.Value.bool Bool.false), (@Go.Value.bool Bool.false), (@Go.Value.slice none 0 0)], true, Bool.false⟩ (.node 65 ⟨(@Go.TypeDesc.array 4 4), 4, 4, [(@Go.Value.bool Bool.false), (@Go.Value.bool Bool.false), (@Go.Value.bool Bool.false), (@Go.Value.bool Bool.false)], true, Bool.true⟩ (.node 64 ⟨(@Go.TypeDesc.func #[9, 22, 47, 3] #[4] Bool.false), 1, 8, [Go.Value.nilFunc], false, Bool.false⟩ .leaf .leaf) (.node 66 ⟨(@Go.TypeDesc.array 4 4), 4, 4, [(@Go.Value.bool Bool.false), (@Go.Value.bool Bool.false), (@Go.Value.bool Bool.false), (@Go.Value.bool Bool.false)], true, Bool.true⟩ .leaf (.node 67 ⟨(@Go.TypeDesc.slice 75), 1, 24, [(@Go.Value.slice none 0 0)], false, Bool.false⟩ .leaf .leaf))) (.node 71 ⟨(@Go.TypeDesc.func #[3, 29] #[26] Bool.false), 1, 8, [Go.Value.nilFunc], false, Bool.false⟩ (.node 69 ⟨(@Go.TypeDesc.struct #[(@Go.Field.mk "first" 66 0 Bool.false "" "isobar/member" 0), (@Go.Field.mk "changes" 67 4 Bool.false "" "isobar/member" 8)]), 5, 32, [(@Go.Value.bool Bool.false), (@Go.Value.bool Bool.false), (@Go.Value.bool Bool.false), (@Go.Value.bool Bool.false), (@Go.Value.slice none 0 0)], true, Bool.false⟩ .leaf (.node 70 ⟨(@Go.TypeDesc.func #[3] #[4] Bool.false), 1, 8, [Go.Value.nilFunc], false, Bool.false⟩ .leaf .leaf)) (.node 72 ⟨(@Go.TypeDesc.func #[26, 20] #[4] Bool.false), 1, 8, [Go.Value.nilFunc], false, Bool.false⟩ .leaf (.node 73 ⟨(@Go.TypeDesc.pointer 29), 1, 8, [(@Go.Value.pointer none)], false, Bool.true⟩ .leaf .leaf)))) (.node 79 ⟨(@Go.TypeDesc.func #[34, 9] #[34] Bool.false), 1, 8, [Go.Value.nilFunc], false, Bool.false⟩ (.node 76 ⟨(@Go.TypeDesc.func #[3] #[66] Bool.false), 1, 8, [Go.Value.nilFunc], false, Bool.false⟩ (.node 75 ⟨(@Go.TypeDesc.struct #[(@Go.Field.mk "mark" 3 0 Bool.false "" "isobar/member" 0), (@Go.Field.mk "volume" 3 1 Bool.false "" "isobar/member" 8), (@Go.Field.mk "gone" 4 2 Bool.false "" "isobar/member" 16)]), 3, 24, [(@Go.Value.int Go.IntKind.i64 0), (@Go.Value.int Go.IntKind.i64 0), (@Go.Value.bool Bool.false)], true, Bool.true⟩ .leaf .leaf) (.node 77 ⟨(@Go.TypeDesc.func #[34, 3] #[34] Bool.false), 1, 8, [Go.Value.nilFunc], false, Bool.false⟩ .leaf (.node 78 ⟨(@Go.TypeDesc.func #[9, 3, 26] #[26] Bool.false), 1, 8, [Go.Value.nilFunc], false, Bool.false⟩ .leaf .leaf))) (.node 82 ⟨(@Go.TypeDesc.func #[3, 38] #[9] Bool.false), 1, 8, [Go.Value.nilFunc], false, Bool.false⟩ (.node 80 ⟨(@Go.TypeDesc.tuple #[34, 4]), 1, 0, [(@Go.Value.tuple #[(@Go.Value.slice none 0 0), (@Go.Value.bool Bool.false)])], false, Bool.false⟩ .leaf (.node 81 ⟨(@Go.TypeDesc.func #[34] #[34, 4] Bool.false), 1, 8, [Go.Value.nilFunc], false, Bool.false⟩ .leaf .leaf)) (.node 83 ⟨(@Go.TypeDesc.slice 85), 1, 24, [(@Go.Value.slice none 0 0)], false, Bool.false⟩ .leaf (.node 84 ⟨(@Go.TypeDesc.func #[26] #[83] Bool.false), 1, 8, [Go.Value.nilFunc], false, Bool.false⟩ .leaf .leaf))))))) (.node 128 ⟨(@Go.TypeDesc.func #[20] #[108] Bool.false), 1, 8, [Go.Value.nilFunc], false, Bool.false⟩ (.node 106 ⟨(@Go.TypeDesc.func #[20] #[105] Bool.false), 1, 8, [Go.Value.nilFunc], false, Bool.false⟩ (.node 95 ⟨(@Go.TypeDesc.func #[3] #[9] Bool.false), 1, 8, [Go.Value.nilFunc], false, Bool.false⟩ (.node 90 ⟨(@Go.TypeDesc.struct #[(@Go.Field.mk "First" 88 0 Bool.false "" "" 0), (@Go.Field.mk "L" 89 4 Bool.false "" "" 32)]), 5, 56, [(@Go.Value.int Go.IntKind.i64 0), (@Go.Value.int Go.IntKind.i64 0), (@Go.Value.int Go.IntKind.i64 0), (@Go.Value.int Go.IntKind.i64 0), (@Go.Value.slice none 0 0)], true, Bool.false⟩ (.node 87 ⟨(@Go.TypeDesc.struct #[(@Go.Field.mk "Op" 9 0 Bool.false "" "" 0), (@Go.Field.mk "At" 3 1 Bool.false "" "" 16), (@Go.Field.mk "Err" 26 2 Bool.false "" "" 24)]), 3, 40, [(@Go.Value.string (@ByteArray.mk #[])), (@Go.Value.int Go.IntKind.i64 0), Go.Value.nilIface], true, Bool.true⟩ (.node 86 ⟨(@Go.TypeDesc.struct #[(@Go.Field.mk "Op" 9 0 Bool.false "" "" 0), (@Go.Field.mk "At" 3 1 Bool.false "" "" 16), (@Go.Field.mk "Err" 26 2 Bool.false "" "" 24)]), 3, 40, [(@Go.Value.string (@ByteArray.mk #[])), (@Go.Value.int Go.IntKind.i64 0), Go.Value.nilIface], true, Bool.true⟩ .leaf .leaf) (.node 88 ⟨(@Go.TypeDesc.array 4 3), 4, 32, [(@Go.Value.int Go.IntKind.i64 0), (@Go.Value.int Go.IntKind.i64 0), (@Go.Value.int Go.IntKind.i64 0), (@Go.Value.int Go.IntKind.i64 0)], true, Bool.true⟩ .leaf (.node 89 ⟨(@Go.TypeDesc.slice 94), 1, 24, [(@Go.Value.slice none 0 0)], false, Bool.false⟩ .leaf .leaf))) (.node 92 ⟨(@Go.TypeDesc.func #[75] #[26] Bool.false), 1, 8, [Go.Value.nilFunc], false, Bool.false⟩ (.node 91 ⟨(@Go.TypeDesc.struct #[(@Go.Field.mk "First" 88 0 Bool.false "" "" 0), (@Go.Field.mk "L" 89 4 Bool.false "" "" 32)]), 5, 56, [(@Go.Value.int Go.IntKind.i64 0), (@Go.Value.int Go.IntKind.i64 0), (@Go.Value.int Go.IntKind.i64 0), (@Go.Value.int Go.IntKind.i64 0), (@Go.Value.slice none 0 0)], true, Bool.false⟩ .leaf .leaf) (.node 93 ⟨(@Go.TypeDesc.struct #[(@Go.Field.mk "Mark" 3 0 Bool.false "" "" 0), (@Go.Field.mk "Volume" 3 1 Bool.false "" "" 8), (@Go.Field.mk "Gone" 4 2 Bool.false "" "" 16)]), 3, 24, [(@Go.Value.int Go.IntKind.i64 0), (@Go.Value.int Go.IntKind.i64 0), (@Go.Value.bool Bool.false)], true, Bool.true⟩ .leaf (.node 94 ⟨(@Go.TypeDesc.struct #[(@Go.Field.mk "Mark" 3 0 Bool.false "" "" 0), (@Go.Field.mk "Volume" 3 1 Bool.false "" "" 8), (@Go.Field.mk "Gone" 4 2 Bool.false "" "" 16)]), 3, 24, [(@Go.Value.int Go.IntKind.i64 0), (@Go.Value.int Go.IntKind.i64 0), (@Go.Value.bool Bool.false)], true, Bool.true⟩ .leaf .leaf)))) (.node 100 ⟨(@Go.TypeDesc.struct #[(@Go.Field.mk "B" 9 0 Bool.false "" "" 0), (@Go.Field.mk "E" 3 1 Bool.false "" "" 16)]), 2, 24, [(@Go.Value.string (@ByteArray.mk #[])), (@Go.Value.int Go.IntKind.i64 0)], true, Bool.true⟩ (.node 97 ⟨(@Go.TypeDesc.func #[34] #[96] Bool.false), 1, 8, [Go.Value.nilFunc], false, Bool.false⟩ (.node 96 ⟨(@Go.TypeDesc.pointer 122), 1, 8, [(@Go.Value.pointer none)], false, Bool.true⟩ .leaf .leaf) (.node 98 ⟨(@Go.TypeDesc.func #[] #[29] Bool.false), 1, 8, [Go.Value.nilFunc], false, Bool.false⟩ .leaf (.node 99 ⟨(@Go.TypeDesc.pointer 101), 1, 8, [(@Go.Value.pointer none)], false, Bool.true⟩ .leaf .leaf))) (.node 103 ⟨(@Go.TypeDesc.int Go.IntKind.u64), 1, 8, [(@Go.Value.int Go.IntKind.u64 0)], false, Bool.true⟩ (.node 101 ⟨(@Go.TypeDesc.struct #[(@Go.Field.mk "B" 9 0 Bool.false "" "" 0), (@Go.Field.mk "E" 3 1 Bool.false "" "" 16)]), 2, 24, [(@Go.Value.string (@ByteArray.mk #[])), (@Go.Value.int Go.IntKind.i64 0)], true, Bool.true⟩ .leaf (.node 102 ⟨Go.TypeDesc.unsafePointer, 1, 8, [(@Go.Value.pointer none)], false, Bool.true⟩ .leaf .leaf)) (.node 104 ⟨(@Go.TypeDesc.struct #[(@Go.Field.mk "typ_" 17 0 Bool.false "" "internal/reflectlite" 0), (@Go.Field.mk "ptr" 102 1 Bool.false "" "internal/reflectlite" 8), (@Go.Field.mk "flag" 103 2 Bool.true "" "internal/reflectlite" 16)]), 3, 24, [(@Go.Value.pointer none), (@Go.Value.pointer none), (@Go.Value.int Go.IntKind.u64 0)], true, Bool.true⟩ .leaf (.node 105 ⟨(@Go.TypeDesc.struct #[(@Go.Field.mk "typ_" 17 0 Bool.false "" "internal/reflectlite" 0), (@Go.Field.mk "ptr" 102 1 Bool.false "" "internal/reflectlite" 8), (@Go.Field.mk "flag" 103 2 Bool.true "" "internal/reflectlite" 16)]), 3, 24, [(@Go.Value.pointer none), (@Go.Value.pointer none), (@Go.Value.int Go.IntKind.u64 0)], true, Bool.true⟩ .leaf .leaf))))) (.node 117 ⟨(@Go.TypeDesc.func #[9] #[9] Bool.false), 1, 8, [Go.Value.nilFunc], false, Bool.false⟩ (.node 111 ⟨(@Go.TypeDesc.func #[] #[110] Bool.false), 1, 8, [Go.Value.nilFunc], false, Bool.false⟩ (.node 108 ⟨(@Go.TypeDesc.interface #[("AssignableTo", 112), ("Comparable", 23), ("Elem", 109), ("Implements", 112), ("Kind", 111), ("Name", 57), ("PkgPath", 57), ("Size", 158), ("String", 57), ("internal/reflectlite.common", 150), ("internal/reflectlite.uncommon", 159)]), 1, 16, [Go.Value.nilIface], false, Bool.true⟩ (.node 107 ⟨(@Go.TypeDesc.interface #[("AssignableTo", 112), ("Comparable", 23), ("Elem", 109), ("Implements", 112), ("Kind", 111), ("Name", 57), ("PkgPath", 57), ("Size", 158), ("String", 57), ("internal/reflectlite.common", 150), ("internal/reflectlite.uncommon", 159)]), 1, 16, [Go.Value.nilIface], false, Bool.true⟩ .leaf .leaf) (.node 109 ⟨(@Go.TypeDesc.func #[] #[108] Bool.false), 1, 8, [Go.Value.nilFunc], false, Bool.false⟩ .leaf (.node 110 ⟨(@Go.TypeDesc.int Go.IntKind.u8), 1, 1, [(@Go.Value.int Go.IntKind.u8 0)], false, Bool.true⟩ .leaf .leaf))) (.node 114 ⟨(@Go.TypeDesc.int Go.IntKind.u64), 1, 8, [(@Go.Value.int Go.IntKind.u64 0)], false, Bool.true⟩ (.node 112 ⟨(@Go.TypeDesc.func #[108] #[4] Bool.false), 1, 8, [Go.Value.nilFunc], false, Bool.false⟩ .leaf (.node 113 ⟨(@Go.TypeDesc.func #[26, 20, 105, 108] #[4] Bool.false), 1, 8, [Go.Value.nilFunc], false, Bool.false⟩ .leaf .leaf)) (.node 115 ⟨(@Go.TypeDesc.func #[34] #[34] Bool.false), 1, 8, [Go.Value.nilFunc], false, Bool.false⟩ .leaf (.node 116 ⟨(@Go.TypeDesc.func #[139] #[34] Bool.true), 1, 8, [Go.Value.nilFunc], false, Bool.false⟩ .leaf .leaf)))) (.node 122 ⟨(@Go.TypeDesc.struct #[(@Go.Field.mk "b" 34 0 Bool.false "" "isobar/pack" 0), (@Go.Field.mk "err" 29 1 Bool.false "" "isobar/pack" 24)]), 2, 32, [(@Go.Value.slice none 0 0), (@Go.Value.int Go.IntKind.i64 0)], true, Bool.false⟩ (.node 119 ⟨(@Go.TypeDesc.func #[9] #[9, 4] Bool.false), 1, 8, [Go.Value.nilFunc], false, Bool.false⟩ (.node 118 ⟨(@Go.TypeDesc.tuple #[9, 4]), 1, 0, [(@Go.Value.tuple #[(@Go.Value.string (@ByteArray.mk #[])), (@Go.Value.bool Bool.false)])], false, Bool.false⟩ .leaf .leaf) (.node 120 ⟨(@Go.TypeDesc.pointer 85), 1, 8, [(@Go.Value.pointer none)], false, Bool.true⟩ .leaf (.node 121 ⟨(@Go.TypeDesc.struct #[(@Go.Field.mk "b" 34 0 Bool.false "" "isobar/pack" 0), (@Go.Field.mk "err" 29 1 Bool.false "" "isobar/pack" 24)]), 2, 32, [(@Go.Value.slice none 0 0), (@Go.Value.int Go.IntKind.i64 0)], true, Bool.false⟩ .leaf .leaf))) (.node 125 ⟨(@Go.TypeDesc.struct #[(@Go.Field.mk "Type" 17 0 Bool.true "" "" 0)]), 1, 8, [(@Go.Value.pointer none)], true, Bool.true⟩ (.node 123 ⟨(@Go.TypeDesc.func #[29] #[3] Bool.false), 1, 8, [Go.Value.nilFunc], false, Bool.false⟩ .leaf (.node 124 ⟨(@Go.TypeDesc.func #[3] #[] Bool.false), 1, 8, [Go.Value.nilFunc], false, Bool.false⟩ .leaf .leaf)) (.node 126 ⟨(@Go.TypeDesc.struct #[(@Go.Field.mk "Type" 17 0 Bool.true "" "" 0)]), 1, 8, [(@Go.Value.pointer none)], true, Bool.true⟩ .leaf (.node 127 ⟨(@Go.TypeDesc.pointer 161), 1, 8, [(@Go.Value.pointer none)], false, Bool.true⟩ .leaf .leaf)))))) (.node 150 ⟨(@Go.TypeDesc.func #[] #[17] Bool.false), 1, 8, [Go.Value.nilFunc], false, Bool.false⟩ (.node 139 ⟨(@Go.TypeDesc.slice 34), 1, 24, [(@Go.Value.slice none 0 0)], false, Bool.false⟩ (.node 133 ⟨(@Go.TypeDesc.func #[20] #[4] Bool.false), 1, 8, [Go.Value.nilFunc], false, Bool.false⟩ (.node 130 ⟨(@Go.TypeDesc.func #[105] #[] Bool.false), 1, 8, [Go.Value.nilFunc], false, Bool.false⟩ (.node 129 ⟨(@Go.TypeDesc.func #[] #[105] Bool.false), 1, 8, [Go.Value.nilFunc], false, Bool.false⟩ .leaf .leaf) (.node 131 ⟨(@Go.TypeDesc.interface #[("As", 133)]), 1, 16, [Go.Value.nilIface], false, Bool.true⟩ .leaf (.node 132 ⟨(@Go.TypeDesc.tuple #[131, 4]), 1, 0, [(@Go.Value.tuple #[Go.Value.nilIface, (@Go.Value.bool Bool.false)])], false, Bool.false⟩ .leaf .leaf))) (.node 136 ⟨(@Go.TypeDesc.interface #[("Unwrap", 138)]), 1, 16, [Go.Value.nilIface], false, Bool.true⟩ (.node 134 ⟨(@Go.TypeDesc.interface #[("Unwrap", 135)]), 1, 16, [Go.Value.nilIface], false, Bool.true⟩ .leaf (.node 135 ⟨(@Go.TypeDesc.func #[] #[26] Bool.false), 1, 8, [Go.Value.nilFunc], false, Bool.false⟩ .leaf .leaf)) (.node 137 ⟨(@Go.TypeDesc.slice 26), 1, 24, [(@Go.Value.slice none 0 0)], false, Bool.false⟩ .leaf (.node 138 ⟨(@Go.TypeDesc.func #[] #[137] Bool.false), 1, 8, [Go.Value.nilFunc], false, Bool.false⟩ .leaf .leaf)))) (.node 144 ⟨(@Go.TypeDesc.array 16 140), 16, 64, [(@Go.Value.int Go.IntKind.u32 0), (@Go.Value.int Go.IntKind.u32 0), (@Go.Value.int Go.IntKind.u32 0), (@Go.Value.int Go.IntKind.u32 0), (@Go.Value.int Go.IntKind.u32 0), (@Go.Value.int Go.IntKind.u32 0), (@Go.Value.int Go.IntKind.u32 0), (@Go.Value.int Go.IntKind.u32 0), (@Go.Value.int Go.IntKind.u32 0), (@Go.Value.int Go.IntKind.u32 0), (@Go.Value.int Go.IntKind.u32 0), (@Go.Value.int Go.IntKind.u32 0), (@Go.Value.int Go.IntKind.u32 0), (@Go.Value.int Go.IntKind.u32 0), (@Go.Value.int Go.IntKind.u32 0), (@Go.Value.int Go.IntKind.u32 0)], true, Bool.true⟩ (.node 141 ⟨(@Go.TypeDesc.func #[34] #[140] Bool.false), 1, 8, [Go.Value.nilFunc], false, Bool.false⟩ (.node 140 ⟨(@Go.TypeDesc.int Go.IntKind.u32), 1, 4, [(@Go.Value.int Go.IntKind.u32 0)], false, Bool.true⟩ .leaf .leaf) (.node 142 ⟨(@Go.TypeDesc.func #[9] #[140] Bool.false), 1, 8, [Go.Value.nilFunc], false, Bool.false⟩ .leaf (.node 143 ⟨(@Go.TypeDesc.func #[140] #[140] Bool.false), 1, 8, [Go.Value.nilFunc], false, Bool.false⟩ .leaf .leaf))) (.node 147 ⟨(@Go.TypeDesc.array 0 16), 0, 0, [], true, Bool.true⟩ (.node 145 ⟨(@Go.TypeDesc.struct #[(@Go.Field.mk "_interface" 17 0 Bool.false "" "runtime" 0), (@Go.Field.mk "concrete" 17 1 Bool.false "" "runtime" 8), (@Go.Field.mk "asserted" 17 2 Bool.false "" "runtime" 16), (@Go.Field.mk "missingMethod" 9 3 Bool.false "" "runtime" 24)]), 4, 40, [(@Go.Value.pointer none), (@Go.Value.pointer none), (@Go.Value.pointer none), (@Go.Value.string (@ByteArray.mk #[]))], true, Bool.true⟩ .leaf (.node 146 ⟨(@Go.TypeDesc.struct #[(@Go.Field.mk "_interface" 17 0 Bool.false "" "runtime" 0), (@Go.Field.mk "concrete" 17 1 Bool.false "" "runtime" 8), (@Go.Field.mk "asserted" 17 2 Bool.false "" "runtime" 16), (@Go.Field.mk "missingMethod" 9 3 Bool.false "" "runtime" 24)]), 4, 40, [(@Go.Value.pointer none), (@Go.Value.pointer none), (@Go.Value.pointer none), (@Go.Value.string (@ByteArray.mk #[]))], true, Bool.true⟩ .leaf .leaf)) (.node 148 ⟨(@Go.TypeDesc.struct #[(@Go.Field.mk "_" 147 0 Bool.false "" "runtime" 0)]), 0, 0, [], true, Bool.true⟩ .leaf (.node 149 ⟨(@Go.TypeDesc.struct #[(@Go.Field.mk "_" 147 0 Bool.false "" "runtime" 0)]), 0, 0, [], true, Bool.true⟩ .leaf .leaf))))) (.node 161 ⟨(@Go.TypeDesc.struct #[(@Go.Field.mk "Method" 9 0 Bool.false "" "" 0), (@Go.Field.mk "Kind" 110 1 Bool.false "" "" 16)]), 2, 24, [(@Go.Value.string (@ByteArray.mk #[])), (@Go.Value.int Go.IntKind.u8 0)], true, Bool.true⟩ (.node 155 ⟨(@Go.TypeDesc.int Go.IntKind.i32), 1, 4, [(@Go.Value.int Go.IntKind.i32 0)], false, Bool.true⟩ (.node 152 ⟨(@Go.TypeDesc.func #[102, 102] #[4] Bool.false), 1, 8, [Go.Value.nilFunc], false, Bool.false⟩ (.node 151 ⟨(@Go.TypeDesc.int Go.IntKind.u8), 1, 1, [(@Go.Value.int Go.IntKind.u8 0)], false, Bool.true⟩ .leaf .leaf) (.node 153 ⟨(@Go.TypeDesc.pointer 5), 1, 8, [(@Go.Value.pointer none)], false, Bool.true⟩ .leaf (.node 154 ⟨(@Go.TypeDesc.int Go.IntKind.i32), 1, 4, [(@Go.Value.int Go.IntKind.i32 0)], false, Bool.true⟩ .leaf .leaf))) (.node 158 ⟨(@Go.TypeDesc.func #[] #[12] Bool.false), 1, 8, [Go.Value.nilFunc], false, Bool.false⟩ (.node 156 ⟨(@Go.TypeDesc.struct #[(@Go.Field.mk "Size_" 12 0 Bool.false "" "" 0), (@Go.Field.mk "PtrBytes" 12 1 Bool.false "" "" 8), (@Go.Field.mk "Hash" 140 2 Bool.false "" "" 16), (@Go.Field.mk "TFlag" 151 3 Bool.false "" "" 20), (@Go.Field.mk "Align_" 5 4 Bool.false "" "" 21), (@Go.Field.mk "FieldAlign_" 5 5 Bool.false "" "" 22), (@Go.Field.mk "Kind_" 110 6 Bool.false "" "" 23), (@Go.Field.mk "Equal" 152 7 Bool.false "" "" 24), (@Go.Field.mk "GCData" 153 8 Bool.false "" "" 32), (@Go.Field.mk "Str" 154 9 Bool.false "" "" 40), (@Go.Field.mk "PtrToThis" 155 10 Bool.false "" "" 44)]), 11, 48, [(@Go.Value.int Go.IntKind.u64 0), (@Go.Value.int Go.IntKind.u64 0), (@Go.Value.int Go.IntKind.u32 0), (@Go.Value.int Go.IntKind.u8 0), (@Go.Value.int Go.IntKind.u8 0), (@Go.Value.int Go.IntKind.u8 0), (@Go.Value.int Go.IntKind.u8 0), Go.Value.nilFunc, (@Go.Value.pointer none), (@Go.Value.int Go.IntKind.i32 0), (@Go.Value.int Go.IntKind.i32 0)], true, Bool.false⟩ .leaf (.node 157 ⟨(@Go.TypeDesc.struct #[(@Go.Field.mk "Size_" 12 0 Bool.false "" "" 0), (@Go.Field.mk "PtrBytes" 12 1 Bool.false "" "" 8), (@Go.Field.mk "Hash" 140 2 Bool.false "" "" 16), (@Go.Field.mk "TFlag" 151 3 Bool.false "" "" 20), (@Go.Field.mk "Align_" 5 4 Bool.false "" "" 21), (@Go.Field.mk "FieldAlign_" 5 5 Bool.false "" "" 22), (@Go.Field.mk "Kind_" 110 6 Bool.false "" "" 23), (@Go.Field.mk "Equal" 152 7 Bool.false "" "" 24), (@Go.Field.mk "GCData" 153 8 Bool.false "" "" 32), (@Go.Field.mk "Str" 154 9 Bool.false "" "" 40), (@Go.Field.mk "PtrToThis" 155 10 Bool.false "" "" 44)]), 11, 48, [(@Go.Value.int Go.IntKind.u64 0), (@Go.Value.int Go.IntKind.u64 0), (@Go.Value.int Go.IntKind.u32 0), (@Go.Value.int Go.IntKind.u8 0), (@Go.Value.int Go.IntKind.u8 0), (@Go.Value.int Go.IntKind.u8 0), (@Go.Value.int Go.IntKind.u8 0), Go.Value.nilFunc, (@Go.Value.pointer none), (@Go.Value.int Go.IntKind.i32 0), (@Go.Value.int Go.IntKind.i32 0)], true, Bool.false⟩ .leaf .leaf)) (.node 159 ⟨(@Go.TypeDesc.func #[] #[162] Bool.false), 1, 8, [Go.Value.nilFunc], false, Bool.false⟩ .leaf (.node 160 ⟨(@Go.TypeDesc.struct #[(@Go.Field.mk "Method" 9 0 Bool.false "" "" 0), (@Go.Field.mk "Kind" 110 1 Bool.false "" "" 16)]), 2, 24, [(@Go.Value.string (@ByteArray.mk #[])), (@Go.Value.int Go.IntKind.u8 0)], true, Bool.true⟩ .leaf .leaf)))) (.node 166 ⟨(@Go.TypeDesc.struct #[(@Go.Field.mk "PkgPath" 154 0 Bool.false "" "" 0), (@Go.Field.mk "Mcount" 164 1 Bool.false "" "" 4), (@Go.Field.mk "Xcount" 164 2 Bool.false "" "" 6), (@Go.Field.mk "Moff" 140 3 Bool.false "" "" 8), (@Go.Field.mk "_" 140 4 Bool.false "" "internal/abi" 12)]), 5, 16, [(@Go.Value.int Go.IntKind.i32 0), (@Go.Value.int Go.IntKind.u16 0), (@Go.Value.int Go.IntKind.u16 0), (@Go.Value.int Go.IntKind.u32 0), (@Go.Value.int Go.IntKind.u32 0)], true, Bool.true⟩ (.node 163 ⟨(@Go.TypeDesc.func #[] #[167] Bool.false), 1, 8, [Go.Value.nilFunc], false, Bool.false⟩ (.node 162 ⟨(@Go.TypeDesc.pointer 166), 1, 8, [(@Go.Value.pointer none)], false, Bool.true⟩ .leaf .leaf) (.node 164 ⟨(@Go.TypeDesc.int Go.IntKind.u16), 1, 2, [(@Go.Value.int Go.IntKind.u16 0)], false, Bool.true⟩ .leaf (.node 165 ⟨(@Go.TypeDesc.struct #[(@Go.Field.mk "PkgPath" 154 0 Bool.false "" "" 0), (@Go.Field.mk "Mcount" 164 1 Bool.false "" "" 4), (@Go.Field.mk "Xcount" 164 2 Bool.false "" "" 6), (@Go.Field.mk "Moff" 140 3 Bool.false "" "" 8), (@Go.Field.mk "_" 140 4 Bool.false "" "internal/abi" 12)]), 5, 16, [(@Go.Value.int Go.IntKind.i32 0), (@Go.Value.int Go.IntKind.u16 0), (@Go.Value.int Go.IntKind.u16 0), (@Go.Value.int Go.IntKind.u32 0), (@Go.Value.int Go.IntKind.u32 0)], true, Bool.true⟩ .leaf .leaf))) (.node 169 ⟨(@Go.TypeDesc.struct #[(@Go.Field.mk "Name" 154 0 Bool.false "" "" 0), (@Go.Field.mk "Mtyp" 155 1 Bool.false "" "" 4), (@Go.Field.mk "Ifn" 168 2 Bool.false "" "" 8), (@Go.Field.mk "Tfn" 168 3 Bool.false "" "" 12)]), 4, 16, [(@Go.Value.int Go.IntKind.i32 0), (@Go.Value.int Go.IntKind.i32 0), (@Go.Value.int Go.IntKind.i32 0), (@Go.Value.int Go.IntKind.i32 0)], true, Bool.true⟩ (.node 167 ⟨(@Go.TypeDesc.slice 170), 1, 24, [(@Go.Value.slice none 0 0)], false, Bool.false⟩ .leaf (.node 168 ⟨(@Go.TypeDesc.int Go.IntKind.i32), 1, 4, [(@Go.Value.int Go.IntKind.i32 0)], false, Bool.true⟩ .leaf .leaf)) (.node 170 ⟨(@Go.TypeDesc.struct #[(@Go.Field.mk "Name" 154 0 Bool.false "" "" 0), (@Go.Field.mk "Mtyp" 155 1 Bool.false "" "" 4), (@Go.Field.mk "Ifn" 168 2 Bool.false "" "" 8), (@Go.Field.mk "Tfn" 168 3 Bool.false "" "" 12)]), 4, 16, [(@Go.Value.int Go.IntKind.i32 0), (@Go.Value.int Go.IntKind.i32 0), (@Go.Value.int Go.IntKind.i32 0), (@Go.Value.int Go.IntKind.i32 0)], true, Bool.true⟩ .leaf (.node 171 ⟨(@Go.TypeDesc.pointer 26), 1, 8, [(@Go.Value.pointer none)], false, Bool.true⟩ .leaf .leaf))))))))
theorem tab_ok : tab.ok Tryd.prog := ⟨ti85, ⟨ti42, ⟨ti20, ⟨ti9, ⟨ti4, ⟨ti1, ⟨ti0, trivial, trivial⟩, ⟨ti2, trivial, ⟨ti3, trivial, trivial⟩⟩⟩, ⟨ti6, ⟨ti5, trivial, trivial⟩, ⟨ti7, trivial, ⟨ti8, trivial, trivial⟩⟩⟩⟩, ⟨ti14, ⟨ti11, ⟨ti10, trivial, trivial⟩, ⟨ti12, trivial, ⟨ti13, trivial, trivial⟩⟩⟩, ⟨ti17, ⟨ti15, trivial, ⟨ti16, trivial, trivial⟩⟩, ⟨ti18, trivial, ⟨ti19, trivial, trivial⟩⟩⟩⟩⟩, ⟨ti31, ⟨ti25, ⟨ti22, ⟨ti21, trivial, trivial⟩, ⟨ti23, trivial, ⟨ti24, trivial, trivial⟩⟩⟩, ⟨ti28, ⟨ti26, trivial, ⟨ti27, trivial, trivial⟩⟩, ⟨ti29, trivial, ⟨ti30, trivial, trivial⟩⟩⟩⟩, ⟨ti36, ⟨ti33, ⟨ti32, trivial, trivial⟩, ⟨ti34, trivial, ⟨ti35, trivial, trivial⟩⟩⟩, ⟨ti39, ⟨ti37, trivial, ⟨ti38, trivial, trivial⟩⟩, ⟨ti40, trivial, ⟨ti41, trivial, trivial⟩⟩⟩⟩⟩⟩, ⟨ti63, ⟨ti52, ⟨ti47, ⟨ti44, ⟨ti43, trivial, trivial⟩, ⟨ti45, trivial, ⟨ti46, trivial, trivial⟩⟩⟩, ⟨ti49, ⟨ti48, trivial, trivial⟩, ⟨ti50, trivial, ⟨ti51, trivial, trivial⟩⟩⟩⟩, ⟨ti57, ⟨ti54, ⟨ti53, trivial, trivial⟩, ⟨ti55, trivial, ⟨ti56, trivial, trivial⟩⟩⟩, ⟨ti60, ⟨ti58, trivial, ⟨ti59, trivial, trivial⟩⟩, ⟨ti61, trivial, ⟨ti62, trivial, trivial⟩⟩⟩⟩⟩, ⟨ti74, ⟨ti68, ⟨ti65, ⟨ti64, trivial, trivial⟩, ⟨ti66, trivial, ⟨ti67, trivial, trivial⟩⟩⟩, ⟨ti71, ⟨ti69, trivial, ⟨ti70, trivial, trivial⟩⟩, ⟨ti72, trivial, ⟨ti73, trivial, trivial⟩⟩⟩⟩, ⟨ti79, ⟨ti76, ⟨ti75, trivial, trivial⟩, ⟨ti77, trivial, ⟨ti78, trivial, trivial⟩⟩⟩, ⟨ti82, ⟨ti80, trivial, ⟨ti81, trivial, trivial⟩⟩, ⟨ti83, trivial, ⟨ti84, trivial, trivial⟩⟩⟩⟩⟩⟩⟩, ⟨ti128, ⟨ti106, ⟨ti95, ⟨ti90, ⟨ti87, ⟨ti86, trivial, trivial⟩, ⟨ti88, trivial, ⟨ti89, trivial, trivial⟩⟩⟩, ⟨ti92, ⟨ti91, trivial, trivial⟩, ⟨ti93, trivial, ⟨ti94, trivial, trivial⟩⟩⟩⟩, ⟨ti100, ⟨ti97, ⟨ti96, trivial, trivial⟩, ⟨ti98, trivial, ⟨ti99, trivial, trivial⟩⟩⟩, ⟨ti103, ⟨ti101, trivial, ⟨ti102, trivial, trivial⟩⟩, ⟨ti104, trivial, ⟨ti105, trivial, trivial⟩⟩⟩⟩⟩, ⟨ti117, ⟨ti111, ⟨ti108, ⟨ti107, trivial, trivial⟩, ⟨ti109, trivial, ⟨ti110, trivial, trivial⟩⟩⟩, ⟨ti114, ⟨ti112, trivial, ⟨ti113, trivial, trivial⟩⟩, ⟨ti115, trivial, ⟨ti116, trivial, trivial⟩⟩⟩⟩, ⟨ti122, ⟨ti119, ⟨ti118, trivial, trivial⟩, ⟨ti120, trivial, ⟨ti121, trivial, trivial⟩⟩⟩, ⟨ti125, ⟨ti123, trivial, ⟨ti124, trivial, trivial⟩⟩, ⟨ti126, trivial, ⟨ti127, trivial, trivial⟩⟩⟩⟩⟩⟩, ⟨ti150, ⟨ti139, ⟨ti133, ⟨ti130, ⟨ti129, trivial, trivial⟩, ⟨ti131, trivial, ⟨ti132, trivial, trivial⟩⟩⟩, ⟨ti136, ⟨ti134, trivial, ⟨ti135, trivial, trivial⟩⟩, ⟨ti137, trivial, ⟨ti138, trivial, trivial⟩⟩⟩⟩, ⟨ti144, ⟨ti141, ⟨ti140, trivial, trivial⟩, ⟨ti142, trivial, ⟨ti143, trivial, trivial⟩⟩⟩, ⟨ti147, ⟨ti145, trivial, ⟨ti146, trivial, trivial⟩⟩, ⟨ti148, trivial, ⟨ti149, trivial, trivial⟩⟩⟩⟩⟩, ⟨ti161, ⟨ti155, ⟨ti152, ⟨ti151, trivial, trivial⟩, ⟨ti153, trivial, ⟨ti154, trivial, trivial⟩⟩⟩, ⟨ti158, ⟨ti156, trivial, ⟨ti157, trivial, trivial⟩⟩, ⟨ti159, trivial, ⟨ti160, trivial, trivial⟩⟩⟩⟩, ⟨ti166, ⟨ti163, ⟨ti162, trivial, trivial⟩, ⟨ti164, trivial, ⟨ti165, trivial, trivial⟩⟩⟩, ⟨ti169, ⟨ti167, trivial, ⟨ti168, trivial, trivial⟩⟩, ⟨ti170, trivial, ⟨ti171, trivial, trivial⟩⟩⟩⟩⟩⟩⟩⟩
noncomputable def G : Ctx := ⟨Tryd.prog, tab, tab_ok, by kernel_rfl⟩
end Go.Proofs.YtkoakmaihcheaabDoor
/- Contracts of functions of the given program, and plain laws on what they compute: parts of the proofs of laws. -/

namespace Go.Proofs.YtkoakmaihcheaabDoor
open Go Go.GL

def widest : Int := 1152921504606846975
/-- a number as bytes -/
def numB (n : Nat) : List UInt8 := if n < 128 then [UInt8.ofNat n] else UInt8.ofNat (n % 128 + 128) :: numB (n / 128)
termination_by n
decreasing_by omega
theorem numB_lt {n : Nat} (h : n < 128) : numB n = [UInt8.ofNat n] := by rw [numB, if_pos h]
theorem numB_ge {n : Nat} (h : ¬ n < 128) : numB n = UInt8.ofNat (n % 128 + 128) :: numB (n / 128) := by rw [numB, if_neg h]
theorem numB_len : ∀ (k n : Nat), n < 128 ^ (k + 1) → (numB n).length ≤ k + 1
  | 0, n, h => by rw [numB_lt (by simpa using h)]; simp
  | k + 1, n, h => by
    by_cases hn : n < 128
    · rw [numB_lt hn]; simp
    · rw [numB_ge hn, List.length_cons]
      have := numB_len k (n / 128) (by rw [Nat.div_lt_iff_lt_mul (by omega), ← Nat.pow_succ]; exact h)
      omega
def clampN (x : Int) : Nat := (max 0 (min x widest)).toNat
theorem clamp_le (x : Int) : (clampN x : Int) ≤ widest := by unfold clampN widest; omega
theorem numB_nine (x : Int) : (numB (clampN x)).length ≤ 9 := numB_len 8 _ (by have := clamp_le x; unfold widest at this; omega)
theorem wrap_u8 (y : Nat) : IntKind.u8.wrap (y : Int) = ((y % 256 : Nat) : Int) := by
  simp [IntKind.wrap, IntKind.signed, IntKind.bits]
set_option maxRecDepth 10000 in
theorem or_small : ∀ z : Fin 256, bitsV .or .u8 (z.val : Int) 128 = ((z.val % 128 + 128 : Nat) : Int) := by decide
theorem or_byte (y : Nat) : Value.int .u8 (bitsV .or .u8 (IntKind.u8.wrap (y : Int)) 128) = byteV (UInt8.ofNat (y % 128 + 128)) := by
  unfold byteV
  rw [wrap_u8]
  have := or_small ⟨y % 256, by omega⟩
  simp only at this
  rw [this]
  congr 1
  rw [UInt8.toNat_ofNat']
  omega
theorem low_byte (y : Nat) (h : y < 128) : Value.int .u8 (y : Int) = byteV (UInt8.ofNat y) := by
  unfold byteV
  congr 1
  rw [UInt8.toNat_ofNat']
  omega
theorem shr7 (y : Nat) : shrV .i64 (y : Int) 7 = ((y / 128 : Nat) : Int) := by
  unfold shrV
  simp [IntKind.bits]
  rw [Int.fdiv_eq_ediv_of_nonneg _ (by omega)]
def NumPost (n : Nat) (l l2 : List UInt8) (v : Value) (M : List Assn) : Prop := ∃ a' cap', v = .slice a' (n + l2.length) cap' ∧ M = [ownS a' (n + l2.length) cap' 5 1 ((l ++ l2).map byteV)]

set_option maxHeartbeats 1000000 in
set_option maxRecDepth 10000 in
theorem number_ok (a : Option Addr) (n cap : Nat) (l : List UInt8) (x : Int) (hn : n < 1000000) :
    Triple G 40 [.slice a n cap, .int .i64 x] [ownS a n cap 5 1 (l.map byteV)] (NumPost n l (numB (clampN x))) := by
  refine Triple.enter Tryd.func40 rfl (by decide) rfl Tryd.ntmps40 rfl (fun F => ?_)
  repeat (first | refine GO ?_ | refine NW fun _ => ?_)
  have hcl : (if (0 : Int) < (if (1152921504606846975 : Int) < x then (1152921504606846975 : Int) else x) then (if (1152921504606846975 : Int) < x then (1152921504606846975 : Int) else x) else 0) = (clampN x : Int) := by
    unfold clampN widest
    split <;> split <;> omega
  rw [hcl]
  have hc1 := clamp_le x
  unfold widest at hc1
  have h9 := numB_nine x
  generalize clampN x = y0 at *
  unfold NumPost
  generalize hfin : l ++ numB y0 = fin
  have hfl : n + (numB y0).length = n + (fin.length - l.length) := by rw [← hfin, List.length_append]; omega
  refine WC.fact (Ent.len (Ent.own (a := a) (n := n) (cap := cap) (T := 5) (size := 1) (cs := l.map byteV) MM)) (fun hlen => ?_)
  have hln : l.length = n := by simpa using hlen
  refine WC.loop (σ := Option Addr × Nat × Nat × List UInt8 × Nat) (fun s => s.2.1 = s.2.2.2.1.length ∧ s.2.2.2.1 ++ numB s.2.2.2.2 = fin ∧ s.2.2.2.2 ≤ y0)
    (fun s => [(0, .val (.slice s.1 s.2.1 s.2.2.1)), (1, .val (.int .i64 s.2.2.2.2))])
    (fun s => [ownS s.1 s.2.1 s.2.2.1 5 1 (s.2.2.2.1.map byteV), F]) (fun s => s.2.2.2.2) (a, n, cap, l, y0) ⟨hln.symm, hfin, Nat.le_refl _⟩ ⟨rfl, rfl, trivial⟩ II ?_
  rintro ⟨a1, n1, cap1, l1, y⟩ ⟨hn1, hl1, hy⟩
  dsimp only at hn1 hl1 hy ⊢
  have hlen1 : l1.length + (numB y).length = fin.length := by rw [← hl1, List.length_append]
  have hlen2 : l.length + (numB y0).length = fin.length := by rw [← hfin, List.length_append]
  by_cases hge : 128 ≤ y
  · rw [numB_ge (by omega)] at hl1
    repeat (first | refine GD ?_ | refine NW fun _ => ?_)
    rw [or_byte y]
    repeat (first | refine GD ?_ | refine NW fun _ => ?_)
    refine WL.step rfl (OP.append rfl rfl rfl rfl rfl rfl rfl rfl rfl P1 (Ent.own MM) rfl (by omega) (by omega) rfl rfl (fun a2 cap2 => ?_))
    repeat (first | refine GD ?_ | refine NW fun _ => ?_)
    rw [shr7 y]
    exact ⟨(a2, n1 + 1, cap2, l1 ++ [UInt8.ofNat (y % 128 + 128)], y / 128), ⟨by simp [hn1], by simp only []; rw [List.append_assoc]; exact hl1, by dsimp only; omega⟩, by dsimp only; omega, ⟨rfl, rfl, trivial⟩, by rw [List.map_append]; exact II⟩
  · rw [numB_lt (by omega)] at hl1
    repeat (first | refine GD ?_ | refine NW fun _ => ?_)
    rw [low_byte y (by omega)]
    repeat (first | refine GD ?_ | refine NW fun _ => ?_)
    refine WL.step rfl (OP.append rfl rfl rfl rfl rfl rfl rfl rfl rfl P1 (Ent.own MM) rfl (by omega) (by omega) rfl rfl (fun a2 cap2 => ?_))
    repeat (first | refine GD ?_ | refine NW fun _ => ?_)
    have e : n + (numB y0).length = n1 + 1 := by
      have : fin.length = n1 + 1 := by rw [← hl1, List.length_append, List.length_singleton, hn1]
      omega
    refine ret1 rfl ⟨[_], ⟨a2, cap2, by rw [e], by rw [e, ← hl1, List.map_append]⟩, II⟩
end Go.Proofs.YtkoakmaihcheaabDoor
/- Contracts of functions of the given program, and plain laws on what they compute: parts of the proofs of laws. -/

namespace Go.Proofs.YtkoakmaihcheaabDoor
open Go Go.GL

abbrev W32 := BitVec 32
def u32V (c : W32) : Value := .int .u32 (c.toNat : Int)
def tbl : List W32 := [0#32, 274646895#32, 549293790#32, 820201905#32, 1098587580#32, 1361435347#32, 1640403810#32, 1905808397#32, 2197175160#32, 2460548119#32, 2722870694#32, 2987750089#32, 3280807620#32, 3553878443#32, 3811616794#32, 4084100981#32]
def half (c : W32) : W32 := (c >>> 4) ^^^ (tbl.getD (c &&& 15#32).toNat 0)
def crcStep (c : W32) (x : UInt8) : W32 := half (half (c ^^^ BitVec.ofNat 32 x.toNat))
def crcF (c : W32) (l : List UInt8) : W32 := l.foldl crcStep c
def crc (l : List UInt8) : W32 := ~~~ (crcF (BitVec.allOnes 32) l)
theorem ofInt_u32 (c : W32) : BitVec.ofInt IntKind.u32.bits (c.toNat : Int) = c := by
  show BitVec.ofInt 32 (c.toNat : Int) = c
  rw [BitVec.ofInt_natCast, BitVec.ofNat_toNat, BitVec.setWidth_eq]
theorem wrap_u32 (c : W32) : IntKind.u32.wrap (c.toNat : Int) = (c.toNat : Int) := wrap_fit (k := .u32) (by have := c.isLt; unfold Fit; omega)
theorem xor_u32 (c d : W32) : bitsV .xor .u32 (c.toNat : Int) (d.toNat : Int) = ((c ^^^ d).toNat : Int) := by
  unfold bitsV
  simp only [ofInt_u32]
  exact wrap_u32 (c ^^^ d)
theorem and_u32 (c d : W32) : bitsV .and .u32 (c.toNat : Int) (d.toNat : Int) = ((c &&& d).toNat : Int) := by
  unfold bitsV
  simp only [ofInt_u32]
  exact wrap_u32 (c &&& d)
theorem shr_u32 (c : W32) (n : Nat) (hn : n ≤ 32) : shrV .u32 (c.toNat : Int) (n : Int) = ((c >>> n).toNat : Int) := by
  unfold shrV
  rw [Int.toNat_natCast, show min n IntKind.u32.bits = n from Nat.min_eq_left hn, Int.fdiv_eq_ediv_of_nonneg _ (by exact Int.le_of_lt (Int.pow_pos (by decide))), BitVec.toNat_ushiftRight, Nat.shiftRight_eq_div_pow]
  rw [Int.natCast_ediv]
  norm_cast
def tblV : List Value := [.int .u32 0, .int .u32 274646895, .int .u32 549293790, .int .u32 820201905, .int .u32 1098587580, .int .u32 1361435347, .int .u32 1640403810, .int .u32 1905808397, .int .u32 2197175160, .int .u32 2460548119, .int .u32 2722870694, .int .u32 2987750089, .int .u32 3280807620, .int .u32 3553878443, .int .u32 3811616794, .int .u32 4084100981]
theorem tbl_cells (i : Nat) (h : i < 16) : tblV[i]? = some (.int .u32 ((tbl.getD i 0).toNat : Int)) := by
  obtain rfl | rfl | rfl | rfl | rfl | rfl | rfl | rfl | rfl | rfl | rfl | rfl | rfl | rfl | rfl | rfl : i = 0 ∨ i = 1 ∨ i = 2 ∨ i = 3 ∨ i = 4 ∨ i = 5 ∨ i = 6 ∨ i = 7 ∨ i = 8 ∨ i = 9 ∨ i = 10 ∨ i = 11 ∨ i = 12 ∨ i = 13 ∨ i = 14 ∨ i = 15 := by omega
  all_goals rfl
set_option maxHeartbeats 1000000 in
set_option maxRecDepth 10000 in
theorem half_ro (c : W32) : RO G 76 [u32V c] (fun _ => True) (u32V (half c)) := by
  refine RO.enter Tryd.func76 rfl (by decide) rfl Tryd.ntmps76 rfl (fun A hu hA => ?_) (fun _ _ _ h => h)
  unfold u32V
  repeat (first | refine GO ?_ | refine NW fun _ => ?_)
  have ha := and_u32 c 15#32
  rw [show (((15#32 : W32).toNat : Nat) : Int) = 15 from rfl] at ha
  have hlt : (c &&& 15#32).toNat < 16 := by
    rw [BitVec.toNat_and]
    exact Nat.lt_of_le_of_lt Nat.and_le_right (by decide)
  have hs := shr_u32 c 4 (by decide)
  rw [show (((4 : Nat) : Int)) = 4 from rfl] at hs
  rw [ha, hs]
  repeat (first | refine GO ?_ | refine NW fun _ => ?_)
  refine WL.step rfl (OP.load1 (v := .int .u32 ((tbl.getD (c &&& 15#32).toNat 0).toNat : Int)) rfl rfl rfl rfl (Ent.blk (c := tblV) MM (by simpa using tbl_cells _ hlt)) rfl rfl ?_)
  repeat (first | refine GO ?_ | refine NW fun _ => ?_)
  rw [xor_u32]
  exact ret1 rfl ⟨rfl, MM⟩
set_option maxHeartbeats 1000000 in
set_option maxRecDepth 10000 in
theorem of_ro (a : Option Addr) (n cap : Nat) (l : List UInt8) (hn : n = l.length) (hs : n < 1000000) : RO G 74 [.slice a n cap] (readS a n 1 (l.map byteV)) (u32V (crc l)) := by
  refine RO.enter Tryd.func74 rfl (by decide) rfl Tryd.ntmps74 rfl (fun A hu hA => ?_) (up_readS _ _ _ _)
  have hE : ∀ {L}, A ∈ L → Ent L (readS a n 1 (l.map byteV)) := fun m => Ent.mem m hu hA
  repeat (first | refine GO ?_ | refine NW fun _ => ?_)
  refine WC.loop (σ := Nat) (fun k => k ≤ n)
    (fun k => [(3, .val (u32V (crcF (BitVec.allOnes 32) (l.take k)))), (6, .val (.slice a n cap)), (7, .val (.int .i64 n)), (8, .val (.int .i64 k))])
    (fun k => [A]) (fun k => n - k) 0 (Nat.zero_le _) ⟨rfl, rfl, rfl, rfl, trivial⟩ (Imp.refl _) ?_
  rintro k hk
  by_cases hlt : k < n
  rotate_left
  · have : l.take k = l := List.take_of_length_le (by omega)
    rw [this]
    unfold u32V
    repeat (first | refine GD ?_ | refine NW fun _ => ?_)
    have hx := xor_u32 (BitVec.allOnes 32) (crcF (BitVec.allOnes 32) l)
    have e : (if IntKind.u32.signed = true then (-1 : Int) else IntKind.u32.max) = ((BitVec.allOnes 32).toNat : Int) := rfl
    rw [e, hx, BitVec.allOnes_xor]
    exact ret1 rfl ⟨rfl, MM⟩
  have hl1 : k < l.length := by omega
  have hsn : crcF (BitVec.allOnes 32) (l.take (k + 1)) = crcStep (crcF (BitVec.allOnes 32) (l.take k)) l[k] := by
    unfold crcF
    rw [List.take_succ_eq_append_getElem hl1, List.foldl_append]
    rfl
  generalize crcF (BitVec.allOnes 32) (l.take k) = c at *
  unfold u32V
  repeat (first | refine GD ?_ | refine NW fun _ => ?_)
  refine WL.fact (Ent.some (hE MM) (by omega)) ?_
  rintro ⟨b, off, rfl⟩
  repeat (first | refine GD ?_ | refine NW fun _ => ?_)
  refine WL.step rfl (OP.load1 (v := byteV l[k]) rfl rfl rfl rfl (Ent.elem (i := k * 1) (hE MM) rfl (by simp [hl1])) rfl rfl ?_)
  generalize l[k] = x at *
  have hx8 : x.toNat < 256 := x.toNat_lt
  unfold byteV
  repeat (first | refine GD ?_ | refine NW fun _ => ?_)
  have hx := xor_u32 c (BitVec.ofNat 32 x.toNat)
  have hb : ((BitVec.ofNat 32 x.toNat).toNat : Int) = x.toNat := by rw [BitVec.toNat_ofNat]; omega
  rw [hb] at hx
  rw [hx]
  refine WL.step rfl (OP.callRO rfl rfl (half_ro _) (fun _ _ => trivial) rfl rfl ?_)
  repeat (first | refine GD ?_ | refine NW fun _ => ?_)
  refine WL.step rfl (OP.callRO rfl rfl (half_ro _) (fun _ _ => trivial) rfl rfl ?_)
  repeat (first | refine GD ?_ | refine NW fun _ => ?_)
  exact ⟨k + 1, by omega, by omega, ⟨by rw [hsn]; rfl, rfl, rfl, rfl, trivial⟩, Imp.refl _⟩
def le4 (c : W32) : List UInt8 := [UInt8.ofNat (c.toNat % 256), UInt8.ofNat ((c >>> 8).toNat % 256), UInt8.ofNat ((c >>> 16).toNat % 256), UInt8.ofNat ((c >>> 24).toNat % 256)]
def tailM (l : List UInt8) : List UInt8 := le4 (crc l)
theorem byte_u32 (c : W32) : Value.int .u8 (IntKind.u8.wrap (c.toNat : Int)) = byteV (UInt8.ofNat (c.toNat % 256)) := by
  unfold byteV
  rw [wrap_u8]
  congr 1
  rw [UInt8.toNat_ofNat']
  omega
def BytesNew (l : List UInt8) (v : Value) (E : List Assn) : Prop := ∃ a cap, v = .slice a l.length cap ∧ E = [ownS a l.length cap 5 1 (l.map byteV)]
set_option maxHeartbeats 1000000 in
set_option maxRecDepth 10000 in
theorem tail_ok (a : Option Addr) (n cap : Nat) (l : List UInt8) (hn : n = l.length) (hs : n < 1000000) : RT G 71 [.slice a n cap] (readS a n 1 (l.map byteV)) (BytesNew (tailM l)) := by
  refine RT.enter Tryd.func71 rfl (by decide) rfl Tryd.ntmps71 rfl (fun A hu hA => ?_)
  have hE : ∀ {L}, A ∈ L → Ent L (readS a n 1 (l.map byteV)) := fun m => Ent.mem m hu hA
  repeat (first | refine GO ?_ | refine NW fun _ => ?_)
  refine WL.step rfl (OP.callRO rfl rfl (of_ro a n cap l hn hs) (hE MM) rfl rfl ?_)
  unfold tailM
  generalize crc l = c
  unfold u32V
  have h8 := shr_u32 c 8 (by decide)
  have h16 := shr_u32 c 16 (by decide)
  have h24 := shr_u32 c 24 (by decide)
  rw [show (((8 : Nat) : Int)) = 8 from rfl] at h8
  rw [show (((16 : Nat) : Int)) = 16 from rfl] at h16
  rw [show (((24 : Nat) : Int)) = 24 from rfl] at h24
  repeat (first | refine GO ?_ | refine NW fun _ => ?_)
  rw [h8, h16, h24, byte_u32, byte_u32, byte_u32, byte_u32]
  exact ret1 rfl ⟨[_], ⟨_, _, rfl, rfl⟩, II⟩
end Go.Proofs.YtkoakmaihcheaabDoor
/- Contracts of functions of the given program, and plain laws on what they compute: parts of the proofs of laws. -/

namespace Go.Proofs.YtkoakmaihcheaabDoor
open Go Go.GL

/-- a fault: its error's value, and its block -/
def Fault (op : ByteArray) (at_ c : Int) (v : Value) (M : List Assn) : Prop := ∃ b, v = .iface 85 (.pointer (some ⟨b, 0, none⟩)) ∧ M = [blk b [.string op, .int .i64 at_, .iface 29 (.int .i64 c)] 87]

set_option maxRecDepth 10000 in
theorem wrap_ok (op : ByteArray) (at_ c : Int) (h : c ≠ 0) : Triple G 42 [.string op, .int .i64 at_, .iface 29 (.int .i64 c)] [] (Fault op at_ c) := by
  refine Triple.enter Tryd.func42 rfl (by decide) rfl Tryd.ntmps42 rfl (fun F => ?_)
  repeat (first | refine GO ?_ | refine NW fun _ => ?_)
  refine WC.cond rfl (fun hb => ?_) (fun _ => ?_)
  · simp [h] at hb
  repeat (first | refine GO ?_ | refine NW fun _ => ?_)
  exact ret1 rfl ⟨_, ⟨_, rfl, rfl⟩, Imp.refl _⟩

end Go.Proofs.YtkoakmaihcheaabDoor
/- Contracts of functions of the given program, and plain laws on what they compute: parts of the proofs of laws. -/

namespace Go.Proofs.YtkoakmaihcheaabDoor
open Go Go.GL

theorem repL_bytes (n : Nat) : repL [Value.int .u8 0] n = (List.replicate n (0 : UInt8)).map byteV := by
  induction n with
  | zero => rfl
  | succ n ih => simp only [repL, ih, List.replicate_succ, List.map_cons, List.singleton_append]; rfl
theorem allOne_bytes (l : List UInt8) : allOne (l.map byteV) = true := by
  induction l with
  | nil => rfl
  | cons x r ih => simpa [allOne, one, byteV] using ih
def textB (s : ByteArray) : List UInt8 := numB s.size ++ s.data.toList
theorem clamp_nat (n : Nat) (h : (n : Int) ≤ widest) : clampN n = n := by unfold clampN widest at *; omega
set_option maxHeartbeats 1000000 in
set_option maxRecDepth 10000 in
theorem text_ok (a : Option Addr) (n cap : Nat) (l : List UInt8) (s : ByteArray) (hn : n < 100000) (hs : s.size < 100000) :
    Triple G 43 [.slice a n cap, .string s] [ownS a n cap 5 1 (l.map byteV)] (NumPost n l (textB s)) := by
  refine Triple.enter Tryd.func43 rfl (by decide) rfl Tryd.ntmps43 rfl (fun F => ?_)
  repeat (first | refine GO ?_ | refine NW fun _ => ?_)
  refine WL.step rfl (OP.call (pre := [ownS a n cap 5 1 (l.map byteV)]) rfl rfl (number_ok a n cap l s.size (by omega)) PS rfl rfl ?_)
  rintro _ _ ⟨a1, cap1, rfl, rfl⟩
  have h9 := numB_nine s.size
  have hcl := clamp_nat s.size (by unfold widest; omega)
  rw [hcl] at h9 ⊢
  repeat (first | refine GO ?_ | refine NW fun _ => ?_)
  refine WL.step rfl (OP.appendStr rfl rfl rfl rfl rfl rfl rfl rfl rfl rfl P1 (by omega) rfl rfl (fun a2 cap2 => ?_))
  repeat (first | refine GO ?_ | refine NW fun _ => ?_)
  have hsl : s.data.toList.length = s.size := Array.length_toList
  have e : n + (numB s.size).length + s.size = n + (textB s).length := by unfold textB; rw [List.length_append, hsl]; omega
  refine ret1 rfl ⟨[_], ⟨a2, cap2, by rw [e], ?_⟩, II⟩
  rw [e]
  unfold textB
  rw [← List.append_assoc, List.map_append (l₁ := l ++ numB s.size)]
  rfl
set_option maxRecDepth 10000 in
theorem num_ro (x least : Int) : RO G 41 [.int .i64 x, .int .i64 least] (fun _ => True) (.bool (decide (least ≤ x ∧ x ≤ widest))) := by
  refine RO.enter Tryd.func41 rfl (by decide) rfl Tryd.ntmps41 rfl (fun A _ hA => ?_) (fun _ _ _ h => h)
  by_cases h1 : least ≤ x
  · by_cases h2 : x ≤ 1152921504606846975
    · repeat (first | refine GD ?_ | refine NW fun _ => ?_)
      exact ret1 rfl ⟨by unfold widest; simp [h1, h2], MM⟩
    · repeat (first | refine GD ?_ | refine NW fun _ => ?_)
      exact ret1 rfl ⟨by unfold widest; simp [h2], MM⟩
  · repeat (first | refine GD ?_ | refine NW fun _ => ?_)
    exact ret1 rfl ⟨by simp [h1], MM⟩
set_option maxRecDepth 10000 in
theorem grow_ok (n : Nat) (hn : n < 10000000) : RT G 72 [.slice none 0 0, .int .i64 n] (fun _ => True) (fun v E => ∃ a cap, v = .slice a 0 cap ∧ E = [ownS a 0 cap 5 1 []]) := by
  refine RT.enter Tryd.func72 rfl (by decide) rfl Tryd.ntmps72 rfl (fun A hu hA => ?_)
  by_cases h0 : n = 0
  · subst h0
    rw [show ((0 : Nat) : Int) = 0 from rfl]
    repeat (first | refine GD ?_ | refine NW fun _ => ?_)
    exact ret1 rfl ⟨[_], ⟨none, 0, rfl, rfl⟩, Imp.nilS 5 1⟩
  · repeat (first | refine GD ?_ | refine NW fun _ => ?_)
    refine WL.step rfl (OP.appendZ rfl rfl rfl rfl rfl rfl rfl rfl rfl rfl (by omega) (by omega) (by omega) (by omega) rfl rfl (fun b cap hcap => ?_))
    refine WL.imp (Imp.ownTake (m := 0) (by omega)) ?_
    repeat (first | refine GD ?_ | refine NW fun _ => ?_)
    exact ret1 rfl ⟨[_], ⟨_, cap, rfl, by simp⟩, Imp.refl _⟩
/-- two slices, one behind the other -/
def TwoS (a : Option Addr) (a1 a2 : Option Addr) (n1 c1 n2 c2 : Nat) (l1 l2 : List UInt8) : Assn := fun h => readS a 2 1 [.slice a1 n1 c1, .slice a2 n2 c2] h ∧ readS a1 n1 1 (l1.map byteV) h ∧ readS a2 n2 1 (l2.map byteV) h
set_option maxHeartbeats 1000000 in
set_option maxRecDepth 10000 in
theorem concat_ok (a a1 a2 : Option Addr) (c n1 c1 n2 c2 : Nat) (l1 l2 : List UInt8) (h1 : n1 = l1.length) (h2 : n2 = l2.length) (hs1 : n1 < 1000000) (hs2 : n2 < 1000000) :
    RT G 62 [.slice a 2 c] (TwoS a a1 a2 n1 c1 n2 c2 l1 l2) (BytesNew (l1 ++ l2)) := by
  refine RT.enter Tryd.func62 rfl (by decide) rfl Tryd.ntmps62 rfl (fun A hu hA => ?_)
  have hE : ∀ {L}, A ∈ L → Ent L (readS a 2 1 [.slice a1 n1 c1, .slice a2 n2 c2]) := fun m => Ent.mem m hu fun h x => (hA h x).1
  have hE1 : ∀ {L}, A ∈ L → Ent L (readS a1 n1 1 (l1.map byteV)) := fun m => Ent.mem m hu fun h x => (hA h x).2.1
  have hE2 : ∀ {L}, A ∈ L → Ent L (readS a2 n2 1 (l2.map byteV)) := fun m => Ent.mem m hu fun h x => (hA h x).2.2
  refine WC.fact (Ent.some (hE MM) (by decide)) ?_
  rintro ⟨b, off, rfl⟩
  repeat (first | refine GO ?_ | refine NW fun _ => ?_)
  refine WC.loop (σ := Nat × Int) (fun s => s.1 ≤ 2 ∧ (s.1 = 0 → s.2 = 0) ∧ (s.1 = 1 → s.2 = n1) ∧ (s.1 = 2 → s.2 = (n1 : Int) + n2))
    (fun s => [(0, .val (.slice (some ⟨b, off, none⟩) 2 c)), (3, .val (.int .i64 s.2)), (9, .val (.slice (some ⟨b, off, none⟩) 2 c)), (10, .val (.int .i64 2)), (11, .val (.int .i64 s.1))])
    (fun s => [A]) (fun s => 2 - s.1) (0, 0) ⟨by simp, by simp, by simp, by simp⟩ ⟨rfl, rfl, rfl, rfl, rfl, trivial⟩ (Imp.refl _) ?_
  rintro ⟨k, t⟩ ⟨hk, ht0, ht1, ht2⟩
  dsimp only at hk ht0 ht1 ht2 ⊢
  obtain rfl | rfl | rfl : k = 0 ∨ k = 1 ∨ k = 2 := by omega
  · obtain rfl := ht0 rfl
    repeat (first | refine GD ?_ | refine NW fun _ => ?_)
    refine WL.step rfl (OP.load1 (v := .slice a1 n1 c1) rfl rfl rfl rfl (Ent.elem (i := 0) (hE MM) rfl rfl) rfl rfl ?_)
    repeat (first | refine GD ?_ | refine NW fun _ => ?_)
    exact ⟨(1, 0 + n1), ⟨by simp, by simp, by simp, by simp⟩, by simp, ⟨rfl, rfl, rfl, rfl, rfl, trivial⟩, Imp.refl _⟩
  · obtain rfl := ht1 rfl
    repeat (first | refine GD ?_ | refine NW fun _ => ?_)
    refine WL.step rfl (OP.load1 (v := .slice a2 n2 c2) rfl rfl rfl rfl (Ent.elem (i := 1) (hE MM) rfl rfl) rfl rfl ?_)
    repeat (first | refine GD ?_ | refine NW fun _ => ?_)
    exact ⟨(2, (n1 : Int) + n2), ⟨by simp, by simp, by simp, by simp⟩, by simp, ⟨rfl, rfl, rfl, rfl, rfl, trivial⟩, Imp.refl _⟩
  obtain rfl := ht2 rfl
  rw [← Int.natCast_add]
  repeat (first | refine GD ?_ | refine NW fun _ => ?_)
  refine WL.step rfl (OP.callRT rfl rfl (grow_ok (n1 + n2) (by omega)) (fun _ _ => trivial) rfl rfl ?_)
  rintro v E ⟨ag, cg, rfl, rfl⟩
  repeat (first | refine GD ?_ | refine NW fun _ => ?_)
  refine WC.loop (σ := Nat × Option Addr × Nat × Nat × List UInt8) (fun s => s.1 ≤ 2 ∧ s.2.2.1 = s.2.2.2.2.length ∧ (s.1 = 0 → s.2.2.2.2 = []) ∧ (s.1 = 1 → s.2.2.2.2 = l1) ∧ (s.1 = 2 → s.2.2.2.2 = l1 ++ l2))
    (fun s => [(25, .val (.slice (some ⟨b, off, none⟩) 2 c)), (6, .val (.slice s.2.1 s.2.2.1 s.2.2.2.1)), (26, .val (.int .i64 2)), (27, .val (.int .i64 s.1))])
    (fun s => [ownS s.2.1 s.2.2.1 s.2.2.2.1 5 1 (s.2.2.2.2.map byteV), A]) (fun s => 2 - s.1) (0, ag, 0, cg, []) ⟨by simp, rfl, by simp, by simp, by simp⟩ ⟨rfl, rfl, rfl, rfl, trivial⟩ II ?_
  rintro ⟨k, a', n', cap', l⟩ ⟨hk, hn', ht0, ht1, ht2⟩
  dsimp only at hk hn' ht0 ht1 ht2 ⊢
  obtain rfl | rfl | rfl : k = 0 ∨ k = 1 ∨ k = 2 := by omega
  · obtain rfl := ht0 rfl
    obtain rfl : n' = 0 := hn'
    repeat (first | refine GD ?_ | refine NW fun _ => ?_)
    refine WL.step rfl (OP.load1 (v := .slice a1 n1 c1) rfl rfl rfl rfl (Ent.elem (i := 0) (hE MM) rfl rfl) rfl rfl ?_)
    repeat (first | refine GD ?_ | refine NW fun _ => ?_)
    refine WL.step rfl (OP.append rfl rfl rfl rfl rfl rfl rfl rfl rfl P1 (hE1 MM) (allOne_bytes _) (by omega) (by omega) rfl rfl (fun a2' cap2 => ?_))
    repeat (first | refine GD ?_ | refine NW fun _ => ?_)
    exact ⟨(1, a2', 0 + n1, cap2, l1), ⟨by simp, by simp [h1], by simp, by simp, by simp⟩, by simp, ⟨rfl, rfl, rfl, rfl, trivial⟩, II⟩
  · obtain rfl := ht1 rfl
    repeat (first | refine GD ?_ | refine NW fun _ => ?_)
    refine WL.step rfl (OP.load1 (v := .slice a2 n2 c2) rfl rfl rfl rfl (Ent.elem (i := 1) (hE MM) rfl rfl) rfl rfl ?_)
    repeat (first | refine GD ?_ | refine NW fun _ => ?_)
    refine WL.step rfl (OP.append rfl rfl rfl rfl rfl rfl rfl rfl rfl P1 (hE2 MM) (allOne_bytes _) (by omega) (by omega) rfl rfl (fun a2' cap2 => ?_))
    repeat (first | refine GD ?_ | refine NW fun _ => ?_)
    exact ⟨(2, a2', n' + n2, cap2, l ++ l2), ⟨by simp, by simp [hn', h2], by simp, by simp, by simp⟩, by simp, ⟨rfl, rfl, rfl, rfl, trivial⟩, by rw [List.map_append]; exact II⟩
  · obtain rfl := ht2 rfl
    subst hn'
    repeat (first | refine GD ?_ | refine NW fun _ => ?_)
    exact ret1 rfl ⟨[_], ⟨a', cap', rfl, rfl⟩, II⟩
end Go.Proofs.YtkoakmaihcheaabDoor
/- Contracts of functions of the given program, and plain laws on what they compute: parts of the proofs of laws. -/

namespace Go.Proofs.YtkoakmaihcheaabDoor
open Go Go.GL

theorem tailM_len (l : List UInt8) : (tailM l).length = 4 := rfl
set_option maxHeartbeats 1000000 in
set_option maxRecDepth 10000 in
theorem seal_ok (a : Option Addr) (n cap : Nat) (l : List UInt8) (hn : n = l.length) (hs : n < 1000000) : RT G 61 [.slice a n cap] (readS a n 1 (l.map byteV)) (BytesNew (l ++ tailM l)) := by
  refine RT.enter Tryd.func61 rfl (by decide) rfl Tryd.ntmps61 rfl (fun A hu hA => ?_)
  have hE : ∀ {L}, A ∈ L → Ent L (readS a n 1 (l.map byteV)) := fun m => Ent.mem m hu hA
  repeat (first | refine GO ?_ | refine NW fun _ => ?_)
  refine WL.step rfl (OP.callRT rfl rfl (tail_ok a n cap l hn hs) (hE MM) rfl rfl ?_)
  rintro v E ⟨a1, cap1, rfl, rfl⟩
  repeat (first | refine GO ?_ | refine NW fun _ => ?_)
  refine WL.step rfl (OP.callRT rfl rfl (concat_ok _ a a1 2 n cap 4 cap1 l (tailM l) hn rfl hs (by decide)) (Ent.and (Ent.own MM) (Ent.and (hE MM) (Ent.own (T := 5) MM))) rfl rfl ?_)
  rintro v E ⟨a2, cap2, rfl, rfl⟩
  repeat (first | refine GO ?_ | refine NW fun _ => ?_)
  exact ret1 rfl ⟨[_], ⟨a2, cap2, rfl, rfl⟩, II⟩
def padM (l : List UInt8) : List UInt8 := l ++ List.replicate (60 - l.length) 0
def sectorM (l : List UInt8) : List UInt8 := padM l ++ tailM (padM l)
theorem padM_len {l : List UInt8} (h : l.length ≤ 60) : (padM l).length = 60 := by unfold padM; rw [List.length_append, List.length_replicate]; omega
theorem sectorM_len {l : List UInt8} (h : l.length ≤ 60) : (sectorM l).length = 64 := by unfold sectorM; rw [List.length_append, padM_len h, tailM_len]
set_option maxHeartbeats 1000000 in
set_option maxRecDepth 10000 in
theorem sector_ok (a : Option Addr) (n cap : Nat) (l : List UInt8) (hn : n = l.length) (hs : n ≤ 60) : RT G 44 [.slice a n cap] (readS a n 1 (l.map byteV)) (fun v E => ∃ v1, v = .tuple #[v1, .bool true] ∧ BytesNew (sectorM l) v1 E) := by
  refine RT.enter Tryd.func44 rfl (by decide) rfl Tryd.ntmps44 rfl (fun A hu hA => ?_)
  have hE : ∀ {L}, A ∈ L → Ent L (readS a n 1 (l.map byteV)) := fun m => Ent.mem m hu hA
  repeat (first | refine GD ?_ | refine NW fun _ => ?_)
  refine WL.step rfl (OP.makeS rfl rfl rfl rfl rfl rfl rfl rfl (by omega) (by omega) (by omega) rfl rfl (fun b => ?_))
  rw [repL_bytes]
  repeat (first | refine GD ?_ | refine NW fun _ => ?_)
  refine WL.step rfl (OP.callRT rfl rfl (concat_ok _ a (some ⟨b, 0, none⟩) 2 n cap _ _ l (List.replicate ((60 : Int) - n).toNat 0) hn (by rw [List.length_replicate]) (by omega) (by omega)) (Ent.and (Ent.own MM) (Ent.and (hE MM) (Ent.own (T := 5) MM))) rfl rfl ?_)
  rintro v E ⟨a2, cap2, rfl, rfl⟩
  repeat (first | refine GD ?_ | refine NW fun _ => ?_)
  have hp : l ++ List.replicate ((60 : Int) - n).toNat 0 = padM l := by unfold padM; rw [show ((60 : Int) - n).toNat = 60 - l.length by omega]
  rw [hp]
  have hpl := padM_len (l := l) (by omega)
  refine WL.step rfl (OP.callRT rfl rfl (seal_ok a2 _ cap2 (padM l) rfl (by omega)) (Ent.own MM) rfl rfl ?_)
  rintro v E ⟨a3, cap3, rfl, rfl⟩
  repeat (first | refine GD ?_ | refine NW fun _ => ?_)
  exact ret2 rfl rfl ⟨[_], ⟨_, rfl, a3, cap3, rfl, rfl⟩, II⟩

/-- a record: number, kind, block, data, marker -/
abbrev Rec := Int × Int × Int × ByteArray × Int
def encR (r : Rec) : List Value := [.int .i64 r.1, .int .i64 r.2.1, .int .i64 r.2.2.1, .string r.2.2.2.1, .int .i64 r.2.2.2.2]
def RightR (r : Rec) : Prop := (1 ≤ r.1 ∧ r.1 ≤ widest) ∧ ((r.2.1 = 2 ∧ (1 ≤ r.2.2.2.2 ∧ r.2.2.2.2 ≤ widest) ∧ r.2.2.2.1 = ⟨#[]⟩ ∧ r.2.2.1 = 0) ∨ (r.2.1 = 1 ∧ (0 ≤ r.2.2.1 ∧ r.2.2.1 < 8) ∧ r.2.2.2.1.size ≤ 16 ∧ r.2.2.2.2 = 0))
instance (r : Rec) : Decidable (RightR r) := by unfold RightR; infer_instance
set_option maxHeartbeats 4000000 in
set_option maxRecDepth 10000 in
theorem right_ro (r : Rec) (hsz : r.2.2.2.1.size < 1000000) : RO G 21 [.agg (encR r).toArray] (fun _ => True) (.bool (decide (RightR r))) := by
  refine RO.enter Tryd.func21 rfl (by decide) rfl Tryd.ntmps21 rfl (fun A hu hA => ?_) (fun _ _ _ h => h)
  obtain ⟨seq, kind, block, data, num⟩ := r
  unfold RightR widest
  dsimp only at hsz ⊢
  rw [show encR (seq, kind, block, data, num) = [.int .i64 seq, .int .i64 kind, .int .i64 block, .string data, .int .i64 num] from rfl]
  repeat (first | refine GO ?_ | refine NW fun _ => ?_)
  refine WL.step rfl (OP.callRO rfl rfl (num_ro _ _) (fun _ _ => trivial) rfl rfl ?_)
  unfold widest
  by_cases h2 : kind = 2
  · by_cases hs : 1 ≤ seq ∧ seq ≤ 1152921504606846975
    rotate_left
    · rw [decide_eq_false hs]
      repeat (first | refine GD ?_ | refine NW fun _ => ?_)
      exact ret1 rfl ⟨by first | (simp; omega) | (simp [*]; omega) | simp [*], MM⟩
    rw [decide_eq_true hs]
    repeat (first | refine GD ?_ | refine NW fun _ => ?_)
    refine WL.guardT rfl rfl rfl rfl (OP.callRO rfl rfl (num_ro _ _) (fun _ _ => trivial) rfl rfl ?_)
    unfold widest
    by_cases hn : 1 ≤ num ∧ num ≤ 1152921504606846975
    rotate_left
    · rw [decide_eq_false hn]
      repeat (first | refine GD ?_ | refine NW fun _ => ?_)
      exact ret1 rfl ⟨by first | (simp; omega) | (simp [*]; omega) | simp [*], MM⟩
    rw [decide_eq_true hn]
    by_cases hd : data = ⟨#[]⟩
    rotate_left
    · repeat (first | refine GD ?_ | refine NW fun _ => ?_)
      exact ret1 rfl ⟨by first | (simp; omega) | (simp [*]; omega) | simp [*], MM⟩
    have hsz0 : data.size = 0 := by rw [hd]; rfl
    by_cases hb0 : 0 ≤ block
    rotate_left
    · repeat (first | refine GD ?_ | refine NW fun _ => ?_)
      exact ret1 rfl ⟨by first | (simp; omega) | (simp [*]; omega) | simp [*], MM⟩
    by_cases hb8 : block < 8
    rotate_left
    · repeat (first | refine GD ?_ | refine NW fun _ => ?_)
      exact ret1 rfl ⟨by first | (simp; omega) | (simp [*]; omega) | simp [*], MM⟩
    by_cases hb : block = 0
    · repeat (first | refine GD ?_ | refine NW fun _ => ?_)
      exact ret1 rfl ⟨by first | (simp; omega) | (simp [*]; omega) | simp [*], MM⟩
    · repeat (first | refine GD ?_ | refine NW fun _ => ?_)
      exact ret1 rfl ⟨by first | (simp; omega) | (simp [*]; omega) | simp [*], MM⟩
  · by_cases h1 : kind = 1
    rotate_left
    · repeat (first | refine GD ?_ | refine NW fun _ => ?_)
      exact ret1 rfl ⟨by first | (simp; omega) | (simp [*]; omega) | simp [*], MM⟩
    by_cases hs : 1 ≤ seq ∧ seq ≤ 1152921504606846975
    rotate_left
    · rw [decide_eq_false hs]
      repeat (first | refine GD ?_ | refine NW fun _ => ?_)
      exact ret1 rfl ⟨by first | (simp; omega) | (simp [*]; omega) | simp [*], MM⟩
    rw [decide_eq_true hs]
    by_cases hb0 : 0 ≤ block
    rotate_left
    · repeat (first | refine GD ?_ | refine NW fun _ => ?_)
      exact ret1 rfl ⟨by first | (simp; omega) | (simp [*]; omega) | simp [*], MM⟩
    by_cases hb8 : block < 8
    rotate_left
    · repeat (first | refine GD ?_ | refine NW fun _ => ?_)
      exact ret1 rfl ⟨by first | (simp; omega) | (simp [*]; omega) | simp [*], MM⟩
    by_cases hs16 : data.size ≤ 16
    rotate_left
    · repeat (first | refine GD ?_ | refine NW fun _ => ?_)
      exact ret1 rfl ⟨by first | (simp; omega) | (simp [*]; omega) | simp [*], MM⟩
    by_cases hn0 : num = 0
    · repeat (first | refine GD ?_ | refine NW fun _ => ?_)
      exact ret1 rfl ⟨by first | (simp; omega) | (simp [*]; omega) | simp [*], MM⟩
    · repeat (first | refine GD ?_ | refine NW fun _ => ?_)
      exact ret1 rfl ⟨by first | (simp; omega) | (simp [*]; omega) | simp [*], MM⟩
end Go.Proofs.YtkoakmaihcheaabDoor
/- Contracts of functions of the given program, and plain laws on what they compute: parts of the proofs of laws. -/

namespace Go.Proofs.YtkoakmaihcheaabDoor
open Go Go.GL

def bodyM (gen : Int) (r : Rec) : List UInt8 :=
  numB (clampN gen) ++ numB (clampN r.1) ++ numB (clampN r.2.1) ++ (if r.2.1 = 1 then numB (clampN r.2.2.1) ++ textB r.2.2.2.1 else numB (clampN r.2.2.2.2))
theorem numB_small {x : Int} (h : 0 ≤ x ∧ x < 128) : (numB (clampN x)).length = 1 := by
  rw [numB_lt (by unfold clampN widest; omega)]; rfl
theorem bodyM_len {gen : Int} {r : Rec} (h : RightR r) : (bodyM gen r).length ≤ 60 := by
  have h1 := numB_nine gen
  have h2 := numB_nine r.1
  have h3 := numB_nine r.2.2.2.2
  unfold bodyM
  rcases h.2 with ⟨hk, _⟩ | ⟨hk, hb, hs, _⟩
  · have h4 := numB_small (x := r.2.1) (by omega)
    rw [if_neg (by omega)]
    simp only [List.length_append]
    omega
  · have h4 := numB_small (x := r.2.1) (by omega)
    have h5 := numB_small (x := r.2.2.1) (by omega)
    have h6 := numB_lt (n := r.2.2.2.1.size) (by omega)
    have h7 : r.2.2.2.1.data.toList.length = r.2.2.2.1.size := Array.length_toList
    rw [if_pos hk]
    unfold textB
    rw [h6]
    simp only [List.length_append, List.length_singleton]
    omega
def recW : ByteArray := ⟨#[114, 101, 99, 111, 114, 100]⟩
def EncPost (gen : Int) (r : Rec) (v : Value) (E : List Assn) : Prop :=
  if RightR r ∧ (0 ≤ gen ∧ gen ≤ widest) then ∃ v1, v = .tuple #[v1, .nilIface] ∧ BytesNew (sectorM (bodyM gen r)) v1 E
  else ∃ e, v = .tuple #[.slice none 0 0, e] ∧ Fault recW r.1 1 e E
set_option maxHeartbeats 4000000 in
set_option maxRecDepth 10000 in
theorem encode_ok (gen : Int) (r : Rec) (hsz : r.2.2.2.1.size < 1000000) : RT G 18 [.int .i64 gen, .agg (encR r).toArray] (fun _ => True) (EncPost gen r) := by
  refine RT.enter Tryd.func18 rfl (by decide) rfl Tryd.ntmps18 rfl (fun A hu hA => ?_)
  have hright := right_ro r hsz
  have hbl := bodyM_len (gen := gen) (r := r)
  obtain ⟨seq, kind, block, data, num⟩ := r
  dsimp only at hsz ⊢
  rw [show encR (seq, kind, block, data, num) = [.int .i64 seq, .int .i64 kind, .int .i64 block, .string data, .int .i64 num] from rfl] at hright ⊢
  repeat (first | refine GO ?_ | refine NW fun _ => ?_)
  rename_i q
  refine WL.step rfl (OP.callRO rfl rfl hright (fun _ _ => trivial) rfl rfl ?_)
  by_cases hr : RightR (seq, kind, block, data, num)
  rotate_left
  · rw [decide_eq_false hr]
    repeat (first | refine GD ?_ | refine NW fun _ => ?_)
    refine WL.step rfl (OP.call (pre := []) (F := _) rfl rfl (wrap_ok _ _ _ (by decide)) (Imp.refl _) rfl rfl ?_)
    rintro v' E ⟨b', rfl, rfl⟩
    repeat (first | refine GD ?_ | refine NW fun _ => ?_)
    refine ret2 rfl rfl ⟨[_], ?_, II⟩
    unfold EncPost
    rw [if_neg (by intro h; first | exact hr h.1 | exact hg h.2)]
    exact ⟨_, rfl, _, rfl, rfl⟩
  rw [decide_eq_true hr]
  repeat (first | refine GD ?_ | refine NW fun _ => ?_)
  refine WL.guardT rfl rfl rfl rfl (OP.callRO rfl rfl (num_ro gen 0) (fun _ _ => trivial) rfl rfl ?_)
  by_cases hg : 0 ≤ gen ∧ gen ≤ widest
  rotate_left
  · rw [decide_eq_false hg]
    repeat (first | refine GD ?_ | refine NW fun _ => ?_)
    refine WL.step rfl (OP.call (pre := []) (F := _) rfl rfl (wrap_ok _ _ _ (by decide)) (Imp.refl _) rfl rfl ?_)
    rintro v' E ⟨b', rfl, rfl⟩
    repeat (first | refine GD ?_ | refine NW fun _ => ?_)
    refine ret2 rfl rfl ⟨[_], ?_, II⟩
    unfold EncPost
    rw [if_neg (by intro h; first | exact hr h.1 | exact hg h.2)]
    exact ⟨_, rfl, _, rfl, rfl⟩
  rw [decide_eq_true hg]
  have hbl := hbl hr
  have hg9 := numB_nine gen
  have hs9 := numB_nine seq
  have hk9 := numB_nine kind
  repeat (first | refine GD ?_ | refine NW fun _ => ?_)
  refine RD 8 9 (_) ?_
  refine WW 0 ?_
  refine WW 2 ?_; refine WW 3 ?_
  refine WW 5 ?_; refine WW 6 ?_
  refine WH.only 1 rfl rfl (by kernel_rfl) rfl (OP.call (pre := [ownS none 0 0 5 1 (([] : List UInt8).map byteV)]) rfl rfl (number_ok none 0 0 [] gen (by omega)) (Imp.nilS 5 1) rfl rfl (fun v M hM => ?_))
  obtain ⟨a1, cap1, rfl, rfl⟩ := hM
  refine ⟨fun _ => II, ?_⟩
  refine WH.only 4 rfl rfl (by kernel_rfl) rfl (OP.call (pre := [ownS a1 _ cap1 5 1 _]) rfl rfl (number_ok a1 _ cap1 _ seq (by omega)) PS rfl rfl (fun v M hM => ?_))
  obtain ⟨a2, cap2, rfl, rfl⟩ := hM
  refine ⟨fun _ => II, ?_⟩
  refine WH.only 7 rfl rfl (by kernel_rfl) rfl (OP.call (pre := [ownS a2 _ cap2 5 1 _]) rfl rfl (number_ok a2 _ cap2 _ kind (by omega)) PS rfl rfl (fun v M hM => ?_))
  obtain ⟨a3, cap3, rfl, rfl⟩ := hM
  refine ⟨fun _ => II, ?_⟩
  refine WW 8 ?_
  refine DN ?_
  by_cases h1 : kind = 1
  · have hb : (0 ≤ block ∧ block < 8) ∧ data.size ≤ 16 := by
      have h2 := hr.2
      dsimp only at h2
      rcases h2 with h2 | h2
      · omega
      · exact ⟨h2.2.1, h2.2.2.1⟩
    have hb1 := numB_small (x := block) (by omega)
    repeat (first | refine GD ?_ | refine NW fun _ => ?_)
    refine RD 7 8 ([blk q [.int .i64 seq, .int .i64 kind, .int .i64 block, .string data, .int .i64 num] 38]) ?_
    refine WW 0 ?_; refine WW 1 ?_; refine WW 2 ?_
    refine WW 4 ?_; refine WW 5 ?_
    refine WH.only 3 rfl rfl (by kernel_rfl) rfl (OP.call (pre := [ownS a3 _ cap3 5 1 _]) rfl rfl (number_ok a3 _ cap3 _ block (by omega)) PS rfl rfl (fun v M hM => ?_))
    obtain ⟨a4, cap4, rfl, rfl⟩ := hM
    refine ⟨fun _ => II, ?_⟩
    refine WH.only 6 rfl rfl (by kernel_rfl) rfl (OP.call (pre := [ownS a4 _ cap4 5 1 _]) rfl rfl (text_ok a4 _ cap4 _ data (by omega) (by omega)) PS rfl rfl (fun v M hM => ?_))
    obtain ⟨a5, cap5, rfl, rfl⟩ := hM
    refine ⟨fun _ => II, ?_⟩
    refine WW 7 ?_
    refine DN ?_
    have hbody : bodyM gen (seq, kind, block, data, num) = [] ++ numB (clampN gen) ++ numB (clampN seq) ++ numB (clampN kind) ++ numB (clampN block) ++ textB data := by
      unfold bodyM
      dsimp only
      rw [if_pos h1, List.nil_append, List.append_assoc (numB (clampN gen) ++ numB (clampN seq) ++ numB (clampN kind))]
    have hlen : (bodyM gen (seq, kind, block, data, num)).length = 0 + (numB (clampN gen)).length + (numB (clampN seq)).length + (numB (clampN kind)).length + (numB (clampN block)).length + (textB data).length := by
      rw [hbody]; simp only [List.length_append, List.length_nil]
    repeat (first | refine GD ?_ | refine NW fun _ => ?_)
    refine WL.step rfl (OP.callRT rfl rfl (sector_ok a5 _ cap5 (bodyM gen (seq, kind, block, data, num)) (by rw [hlen]) (by omega)) (Ent.own (T := 5) (by rw [hbody]; exact MM)) rfl rfl ?_)
    rintro v E ⟨v1, rfl, a6, cap6, rfl, rfl⟩
    repeat (first | refine GD ?_ | refine NW fun _ => ?_)
    refine ret2 rfl rfl ⟨[_], ?_, II⟩
    unfold EncPost
    rw [if_pos ⟨hr, hg⟩]
    exact ⟨_, rfl, a6, cap6, rfl, rfl⟩
  · repeat (first | refine GD ?_ | refine NW fun _ => ?_)
    refine WL.step rfl (OP.call (pre := [ownS a3 _ cap3 5 1 _]) rfl rfl (number_ok a3 _ cap3 _ num (by omega)) PS rfl rfl ?_)
    rintro _ _ ⟨a5, cap5, rfl, rfl⟩
    have hbody : bodyM gen (seq, kind, block, data, num) = [] ++ numB (clampN gen) ++ numB (clampN seq) ++ numB (clampN kind) ++ numB (clampN num) := by
      unfold bodyM
      dsimp only
      rw [if_neg h1, List.nil_append]
    have hlen : (bodyM gen (seq, kind, block, data, num)).length = 0 + (numB (clampN gen)).length + (numB (clampN seq)).length + (numB (clampN kind)).length + (numB (clampN num)).length := by
      rw [hbody]; simp only [List.length_append, List.length_nil]
    repeat (first | refine GD ?_ | refine NW fun _ => ?_)
    refine WL.step rfl (OP.callRT rfl rfl (sector_ok a5 _ cap5 (bodyM gen (seq, kind, block, data, num)) (by rw [hlen]) (by omega)) (Ent.own (T := 5) (by rw [hbody]; exact MM)) rfl rfl ?_)
    rintro v E ⟨v1, rfl, a6, cap6, rfl, rfl⟩
    repeat (first | refine GD ?_ | refine NW fun _ => ?_)
    refine ret2 rfl rfl ⟨[_], ?_, II⟩
    unfold EncPost
    rw [if_pos ⟨hr, hg⟩]
    exact ⟨_, rfl, a6, cap6, rfl, rfl⟩
end Go.Proofs.YtkoakmaihcheaabDoor
/- Contracts of functions of the given program, and plain laws on what they compute: parts of the proofs of laws. -/

namespace Go.Proofs.YtkoakmaihcheaabDoor
open Go Go.GL

theorem ofNat_toNat {n : Nat} (h : n < 256) : (UInt8.ofNat n).toNat = n := by rw [UInt8.toNat_ofNat']; omega
theorem numB_inj : ∀ (k n m : Nat) (a b : List UInt8), n ≤ k → numB n ++ a = numB m ++ b → n = m ∧ a = b := by
  intro k
  induction k with
  | zero =>
    intro n m a b hn h
    obtain rfl : n = 0 := by omega
    rw [numB_lt (by omega)] at h
    by_cases hm : m < 128
    · rw [numB_lt hm, List.singleton_append, List.singleton_append, List.cons.injEq] at h
      have := congrArg UInt8.toNat h.1
      rw [ofNat_toNat (by omega), ofNat_toNat (by omega)] at this
      exact ⟨this, h.2⟩
    · rw [numB_ge hm, List.singleton_append, List.cons_append, List.cons.injEq] at h
      have := congrArg UInt8.toNat h.1
      rw [ofNat_toNat (by omega), ofNat_toNat (by omega)] at this
      omega
  | succ k ih =>
    intro n m a b hn h
    by_cases hn' : n < 128
    · rw [numB_lt hn'] at h
      by_cases hm : m < 128
      · rw [numB_lt hm, List.singleton_append, List.singleton_append, List.cons.injEq] at h
        have := congrArg UInt8.toNat h.1
        rw [ofNat_toNat (by omega), ofNat_toNat (by omega)] at this
        exact ⟨this, h.2⟩
      · rw [numB_ge hm, List.singleton_append, List.cons_append, List.cons.injEq] at h
        have := congrArg UInt8.toNat h.1
        rw [ofNat_toNat (by omega), ofNat_toNat (by omega)] at this
        omega
    · rw [numB_ge hn'] at h
      by_cases hm : m < 128
      · rw [numB_lt hm, List.singleton_append, List.cons_append, List.cons.injEq] at h
        have := congrArg UInt8.toNat h.1
        rw [ofNat_toNat (by omega), ofNat_toNat (by omega)] at this
        omega
      · rw [numB_ge hm, List.cons_append, List.cons_append, List.cons.injEq] at h
        have h1 := congrArg UInt8.toNat h.1
        rw [ofNat_toNat (by omega), ofNat_toNat (by omega)] at h1
        have h2 := ih (n / 128) (m / 128) a b (by omega) h.2
        exact ⟨by omega, h2.2⟩
theorem clamp_inj {x y : Int} (hx : 0 ≤ x ∧ x ≤ widest) (hy : 0 ≤ y ∧ y ≤ widest) (h : clampN x = clampN y) : x = y := by unfold clampN at h; omega
theorem body_inj {g o : Int} {r s : Rec} {a b : List UInt8} (hr : RightR r) (hs : RightR s) (hg : 0 ≤ g ∧ g ≤ widest) (ho : 0 ≤ o ∧ o ≤ widest) (h : bodyM g r ++ a = bodyM o s ++ b) : g = o ∧ r = s := by
  obtain ⟨s1, k1, b1, d1, n1⟩ := r
  obtain ⟨s2, k2, b2, d2, n2⟩ := s
  obtain ⟨hs1, hc1⟩ := hr
  obtain ⟨hs2, hc2⟩ := hs
  have hw : (8 : Int) ≤ widest := by decide
  dsimp only at hs1 hs2 hc1 hc2
  unfold bodyM at h
  dsimp only at h
  simp only [List.append_assoc] at h
  obtain ⟨e1, h1⟩ := numB_inj _ _ _ _ _ (Nat.le_refl _) h
  obtain ⟨e2, h2⟩ := numB_inj _ _ _ _ _ (Nat.le_refl _) h1
  obtain ⟨e3, h3⟩ := numB_inj _ _ _ _ _ (Nat.le_refl _) h2
  clear h h1 h2
  have e1 := clamp_inj hg ho e1
  have e2 := clamp_inj (by omega) (by omega) e2
  have e3 := clamp_inj (by omega) (by omega) e3
  subst e1 e2 e3
  refine ⟨rfl, ?_⟩
  by_cases hk : k1 = 1
  · rw [if_pos hk, if_pos hk] at h3
    simp only [List.append_assoc] at h3
    obtain ⟨e4, h4⟩ := numB_inj _ _ _ _ _ (Nat.le_refl _) h3
    have e4 := clamp_inj (by omega) (by omega) e4
    unfold textB at h4
    simp only [List.append_assoc] at h4
    obtain ⟨e5, h5⟩ := numB_inj _ _ _ _ _ (Nat.le_refl _) h4
    have l1 : d1.data.toList.length = d1.size := Array.length_toList
    have l2 : d2.data.toList.length = d2.size := Array.length_toList
    have e6 := List.append_inj_left h5 (by rw [l1, l2, e5])
    have e7 : d1 = d2 := by rw [← ba_data d1, e6, ba_data]
    subst e4 e7
    have : n1 = n2 := by omega
    rw [this]
  · rw [if_neg hk, if_neg hk] at h3
    obtain ⟨e4, _⟩ := numB_inj _ _ _ _ _ (Nat.le_refl _) h3
    have hc1 := hc1.resolve_right (fun x => hk x.1)
    have hc2 := hc2.resolve_right (fun x => hk x.1)
    have e4 := clamp_inj (by omega) (by omega) e4
    rw [e4, hc1.2.2.2, hc2.2.2.2, hc1.2.2.1, hc2.2.2.1]
theorem sector_inj {g o : Int} {r s : Rec} (hr : RightR r) (hs : RightR s) (hg : 0 ≤ g ∧ g ≤ widest) (ho : 0 ≤ o ∧ o ≤ widest) (h : sectorM (bodyM g r) = sectorM (bodyM o s)) : g = o ∧ r = s := by
  unfold sectorM at h
  have h1 := List.append_inj_left h (by rw [padM_len (bodyM_len hr), padM_len (bodyM_len hs)])
  unfold padM at h1
  exact body_inj hr hs hg ho h1
def recFs : List Field := [⟨"Seq", 3, 0, false, "", "", 0⟩, ⟨"Kind", 3, 1, false, "", "", 8⟩, ⟨"Block", 3, 2, false, "", "", 16⟩, ⟨"Data", 9, 3, false, "", "", 24⟩, ⟨"Number", 3, 4, false, "", "", 40⟩]
theorem eq_rec (r s : Rec) : eqFs G.T (encR r) (encR s) recFs = some (decide (r = s)) := by
  obtain ⟨s1, k1, b1, d1, n1⟩ := r
  obtain ⟨s2, k2, b2, d2, n2⟩ := s
  have : eqFs G.T (encR (s1, k1, b1, d1, n1)) (encR (s2, k2, b2, d2, n2)) recFs = some (decide (s1 = s2) && (decide (k1 = k2) && (decide (b1 = b2) && (decide (d1 = d2) && (decide (n1 = n2) && true))))) := rfl
  rw [this]
  simp [Prod.mk.injEq, Bool.decide_and]
theorem ba_inj {a b : List UInt8} (h : ba a = ba b) : a = b := by
  unfold ba at h
  have := ByteArray.mk.inj h
  simpa using this
end Go.Proofs.YtkoakmaihcheaabDoor
/- Contracts of functions of the given program, and plain laws on what they compute: parts of the proofs of laws. -/

namespace Go.Proofs.YtkoakmaihcheaabDoor
open Go Go.GL

/-- what is left to read, and what was wrong -/
abbrev PR := List UInt8 × Int
def rdN : Nat → Nat → List UInt8 → Except Int (Nat × List UInt8)
  | _, _, [] => .error 2
  | i, n, c :: t =>
    if (i = 8 ∧ (128 ≤ c.toNat ∨ widest < ((n + c.toNat % 128 * 128 ^ i : Nat) : Int))) ∨ (0 < i ∧ c.toNat = 0) then .error 1
    else if c.toNat < 128 then .ok (n + c.toNat % 128 * 128 ^ i, t)
    else rdN (i + 1) (n + c.toNat % 128 * 128 ^ i) t
theorem rdN_cons (i n : Nat) (c : UInt8) (t : List UInt8) : rdN i n (c :: t) =
    if (i = 8 ∧ (128 ≤ c.toNat ∨ widest < ((n + c.toNat % 128 * 128 ^ i : Nat) : Int))) ∨ (0 < i ∧ c.toNat = 0) then .error 1
    else if c.toNat < 128 then .ok (n + c.toNat % 128 * 128 ^ i, t)
    else rdN (i + 1) (n + c.toNat % 128 * 128 ^ i) t := rfl
def numR (s : PR) : Int × PR :=
  if s.2 ≠ 0 then (0, s) else match rdN 0 0 s.1 with
    | .ok (n, t) => ((n : Int), (t, 0))
    | .error e => (0, ([], e))
def RdPost (r : Nat) (A : Assn) (x : Value) (s : PR) (v : Value) (M : List Assn) : Prop := v = x ∧ ∃ v', Bytes A s.1 v' ∧ M = [blk r [v', .int .i64 s.2] 122, A]
theorem bytes_nil (A : Assn) : Bytes A [] (.slice none 0 0) := ⟨none, 0, 0, rfl, rfl, Nat.le_refl _, fun _ _ => ⟨rfl, .inl ⟨rfl, rfl⟩⟩⟩
set_option maxRecDepth 10000 in
theorem err_ro (r : Nat) (v : Value) (e : Int) : RO G 53 [.pointer (some ⟨r, 0, none⟩)] (cellsAt r 0 [v, .int .i64 e]) (.int .i64 e) := by
  refine RO.enter Tryd.func53 rfl (by decide) rfl Tryd.ntmps53 rfl (fun A hu hA => ?_) (up_cellsAt _ _ _)
  repeat (first | refine GO ?_ | refine NW fun _ => ?_)
  refine WL.step rfl (OP.load1 (v := .int .i64 e) rfl rfl rfl rfl (Ent.mem (A := A) MM hu (fun h x => cellsAt_one (i := 1) (hA h x) rfl)) rfl rfl ?_)
  repeat (first | refine GO ?_ | refine NW fun _ => ?_)
  exact ret1 rfl ⟨rfl, MM⟩
set_option maxRecDepth 10000 in
theorem wrong5_ok (r : Nat) (A : Assn) (v : Value) (e code : Int) : Triple G 65 [.pointer (some ⟨r, 0, none⟩), .int .i64 code] [blk r [v, .int .i64 e] 122, A] (RdPost r A (.int .i64 0) ([], code)) := by
  refine Triple.enter Tryd.func65 rfl (by decide) rfl Tryd.ntmps65 rfl (fun F => ?_)
  repeat (first | refine GO ?_ | refine NW fun _ => ?_)
  exact ret1 rfl ⟨_, ⟨rfl, _, bytes_nil A, rfl⟩, Imp.refl _⟩
set_option maxRecDepth 10000 in
theorem andnot_small : ∀ z : Fin 256, bitsV .andNot .u8 (z.val : Int) 128 = ((z.val % 128 : Nat) : Int) := by decide
theorem andnot_byte (c : UInt8) : bitsV .andNot .u8 (c.toNat : Int) 128 = ((c.toNat % 128 : Nat) : Int) := andnot_small ⟨c.toNat, c.toNat_lt⟩
theorem pow128 (i : Nat) (h : i ≤ 8) : (128 : Nat) ^ i ≤ 128 ^ 8 := Nat.pow_le_pow_right (by decide) h
theorem shl_num (x i : Nat) (hx : x < 128) (hi : i ≤ 8) : shlV .i64 (x : Int) (7 * (i : Int)) = ((x * 128 ^ i : Nat) : Int) := by
  have hp := pow128 i hi
  have h1 : x * 128 ^ i ≤ 127 * 128 ^ 8 := Nat.mul_le_mul (by omega) hp
  have e : (2 : Int) ^ (min (7 * (i : Int)).toNat IntKind.i64.bits) = ((128 ^ i : Nat) : Int) := by
    have : min (7 * (i : Int)).toNat IntKind.i64.bits = 7 * i := by
      show min (7 * (i : Int)).toNat 64 = 7 * i
      omega
    rw [this, show (128 : Nat) ^ i = 2 ^ (7 * i) by rw [Nat.pow_mul], Int.natCast_pow]
    rfl
  unfold shlV
  rw [e, ← Int.natCast_mul]
  exact wrap_fit (k := .i64) (by unfold Fit; omega)
theorem or_num (n x i : Nat) (hn : n < 128 ^ i) (hx : x < 128) (hi : i ≤ 8) : bitsV .or .i64 (n : Int) ((x * 128 ^ i : Nat) : Int) = ((n + x * 128 ^ i : Nat) : Int) := by
  have hp := pow128 i hi
  have h1 : x * 128 ^ i ≤ 127 * 128 ^ 8 := Nat.mul_le_mul (by omega) hp
  have hor : n ||| x * 128 ^ i = n + x * 128 ^ i := by
    have e : (128 : Nat) ^ i = 2 ^ (7 * i) := by rw [Nat.pow_mul]
    rw [e] at hn ⊢
    have := Nat.shiftLeft_add_eq_or_of_lt hn x
    rw [Nat.shiftLeft_eq] at this
    rw [Nat.or_comm, ← this, Nat.add_comm]
  unfold bitsV
  show IntKind.i64.wrap (((BitVec.ofInt 64 (n : Int)) ||| (BitVec.ofInt 64 ((x * 128 ^ i : Nat) : Int))).toNat : Int) = _
  rw [BitVec.ofInt_natCast, BitVec.ofInt_natCast, BitVec.toNat_or, BitVec.toNat_ofNat, BitVec.toNat_ofNat, Nat.mod_eq_of_lt (by omega), Nat.mod_eq_of_lt (by omega), hor]
  exact wrap_fit (k := .i64) (by unfold Fit; omega)
end Go.Proofs.YtkoakmaihcheaabDoor
/- Contracts of functions of the given program, and plain laws on what they compute: parts of the proofs of laws. -/

namespace Go.Proofs.YtkoakmaihcheaabDoor
open Go Go.GL

def numF : Except Int (Nat × List UInt8) → Int × PR
  | .ok (n, t) => ((n : Int), (t, 0))
  | .error e => (0, ([], e))
theorem numR_zero (l : List UInt8) : numR (l, 0) = numF (rdN 0 0 l) := by
  unfold numR numF
  cases rdN 0 0 l <;> rfl
theorem numR_err {s : PR} (h : s.2 ≠ 0) : numR s = (0, s) := by unfold numR; rw [if_pos h]
set_option maxHeartbeats 4000000 in
set_option maxRecDepth 10000 in
theorem numR_ok (r : Nat) (v : Value) (s : PR) (A : Assn) (hu : Up A) (hv : Bytes A s.1 v) (hl : s.1.length < 1000000) :
    Triple G 52 [.pointer (some ⟨r, 0, none⟩)] [blk r [v, .int .i64 s.2] 122, A] (RdPost r A (.int .i64 (numR s).1) (numR s).2) := by
  refine Triple.enter Tryd.func52 rfl (by decide) rfl Tryd.ntmps52 rfl (fun F => ?_)
  obtain ⟨l, e⟩ := s
  dsimp only at hv hl ⊢
  repeat (first | refine GO ?_ | refine NW fun _ => ?_)
  refine WL.step rfl (OP.callRO rfl rfl (err_ro r v e) (Ent.whole (T := 122) MM) rfl rfl ?_)
  by_cases he : e = 0
  rotate_left
  · rw [numR_err he]
    repeat (first | refine GD ?_ | refine NW fun _ => ?_)
    exact ret1 rfl ⟨_, ⟨rfl, v, hv, rfl⟩, Imp.refl _⟩
  subst he
  rw [numR_zero]
  obtain ⟨a, n, c, rfl, hn, hc, hr⟩ := hv
  have hE : ∀ {L}, A ∈ L → Ent L (readS a n 1 (l.map byteV)) := fun m => Ent.mem m hu hr
  generalize hF : rdN 0 0 l = R
  repeat (first | refine GD ?_ | refine NW fun _ => ?_)
  refine WC.loop (σ := Nat × Nat) (fun s => s.1 ≤ 8 ∧ s.1 ≤ n ∧ s.2 < 128 ^ s.1 ∧ rdN s.1 s.2 (l.drop s.1) = R)
    (fun s => [(0, .val (.pointer (some ⟨r, 0, none⟩))), (3, .val (.int .i64 s.2)), (12, .val (.slice a n c)), (13, .val (.int .i64 n)), (14, .val (.int .i64 s.1))])
    (fun _ => [blk r [.slice a n c, .int .i64 0] 122, A, F]) (fun s => n - s.1) (0, 0) ⟨by simp, by simp, by simp, hF⟩ ⟨rfl, rfl, rfl, rfl, rfl, trivial⟩ II ?_
  rintro ⟨i, m⟩ ⟨hi8, hin, hm, hR⟩
  dsimp only at hi8 hin hm hR ⊢
  by_cases hlt : i < n
  rotate_left
  · rw [List.drop_eq_nil_of_le (by omega)] at hR
    subst hR
    repeat (first | refine GD ?_ | refine NW fun _ => ?_)
    refine WL.step rfl (OP.call (pre := [blk r [.slice a n c, .int .i64 0] 122, A]) rfl rfl (wrong5_ok r A _ 0 2) PS rfl rfl ?_)
    rintro _ _ ⟨rfl, v', hv', rfl⟩
    repeat (first | refine GD ?_ | refine NW fun _ => ?_)
    exact ret1 rfl ⟨_, ⟨rfl, v', hv', rfl⟩, Imp.refl _⟩
  have hl1 : i < l.length := by omega
  rw [List.drop_eq_getElem_cons hl1, rdN_cons] at hR
  repeat (first | refine GD ?_ | refine NW fun _ => ?_)
  refine WL.fact (Ent.some (hE MM) (by omega)) ?_
  rintro ⟨b, off, rfl⟩
  repeat (first | refine GD ?_ | refine NW fun _ => ?_)
  refine WL.step rfl (OP.load1 (v := byteV l[i]) rfl rfl rfl rfl (Ent.elem (i := i * 1) (hE MM) rfl (by simp [hl1])) rfl rfl ?_)
  generalize l[i] = x at *
  have hx8 : x.toNat < 256 := x.toNat_lt
  unfold byteV
  have hx128 : x.toNat % 128 < 128 := by omega
  have hbits : bitsV .or .i64 (m : Int) (shlV .i64 (IntKind.i64.wrap (bitsV .andNot .u8 (x.toNat : Int) 128)) (7 * (i : Int))) = ((m + x.toNat % 128 * 128 ^ i : Nat) : Int) := by
    rw [andnot_byte, wrap_fit (k := .i64) (show Fit .i64 _ by unfold Fit; omega), shl_num _ _ hx128 hi8, or_num _ _ _ hm hx128 hi8]
  have hm2 : m + x.toNat % 128 * 128 ^ i < 128 ^ (i + 1) := by
    have h1 : x.toNat % 128 * 128 ^ i ≤ 127 * 128 ^ i := Nat.mul_le_mul_right _ (by omega)
    rw [Nat.pow_succ]
    omega
  have hp8 := pow128 i hi8
  have h127 : x.toNat % 128 * 128 ^ i ≤ 127 * 128 ^ 8 := Nat.mul_le_mul (by omega) hp8
  generalize hmm : m + x.toNat % 128 * 128 ^ i = m2 at *
  by_cases h8 : i = 8
  · by_cases hc1 : 128 ≤ x.toNat
    · rw [if_pos (by omega)] at hR
      repeat (first | refine GD ?_ | refine NW fun _ => ?_)
      refine WL.step rfl (OP.call (pre := [blk r [.slice (some ⟨b, off, none⟩) n c, .int .i64 0] 122, A]) rfl rfl (wrong5_ok r A _ 0 1) PS rfl rfl ?_)
      rintro _ _ ⟨rfl, v', hv', rfl⟩
      repeat (first | refine GD ?_ | refine NW fun _ => ?_)
      subst hR
      exact ret1 rfl ⟨_, ⟨rfl, v', hv', rfl⟩, Imp.refl _⟩
    · by_cases hw : widest < (m2 : Int)
      · rw [if_pos (by omega)] at hR
        repeat (first | refine GD ?_ | refine NW fun _ => ?_)
        rw [hbits, decide_eq_true (show (1152921504606846975 : Int) < (m2 : Int) from hw)]
        repeat (first | refine GD ?_ | refine NW fun _ => ?_)
        refine WL.step rfl (OP.call (pre := [blk r [.slice (some ⟨b, off, none⟩) n c, .int .i64 0] 122, A]) rfl rfl (wrong5_ok r A _ 0 1) PS rfl rfl ?_)
        rintro _ _ ⟨rfl, v', hv', rfl⟩
        repeat (first | refine GD ?_ | refine NW fun _ => ?_)
        subst hR
        exact ret1 rfl ⟨_, ⟨rfl, v', hv', rfl⟩, Imp.refl _⟩
      · by_cases hz : x.toNat = 0
        · rw [if_pos (by omega)] at hR
          repeat (first | refine GD ?_ | refine NW fun _ => ?_)
          rw [hbits, decide_eq_false (show ¬ (1152921504606846975 : Int) < (m2 : Int) from hw)]
          repeat (first | refine GD ?_ | refine NW fun _ => ?_)
          refine WL.step rfl (OP.call (pre := [blk r [.slice (some ⟨b, off, none⟩) n c, .int .i64 0] 122, A]) rfl rfl (wrong5_ok r A _ 0 1) PS rfl rfl ?_)
          rintro _ _ ⟨rfl, v', hv', rfl⟩
          repeat (first | refine GD ?_ | refine NW fun _ => ?_)
          subst hR
          exact ret1 rfl ⟨_, ⟨rfl, v', hv', rfl⟩, Imp.refl _⟩
        · rw [if_neg (by omega), if_pos (by omega)] at hR
          have hlt8 : x.toNat < 128 := by omega
          repeat (first | refine GD ?_ | refine NW fun _ => ?_)
          rw [hbits, decide_eq_false (show ¬ (1152921504606846975 : Int) < (m2 : Int) from hw)]
          repeat (first | refine GD ?_ | refine NW fun _ => ?_)
          subst hR
          refine ret1 rfl ⟨_, ⟨rfl, _, ⟨_, _, _, rfl, ?_, ?_, ?_⟩, rfl⟩, Imp.refl _⟩
          · dsimp only [numF]; rw [List.length_drop]; omega
          · omega
          · intro h hh
            have := readS_cut (i := i + 1) (hr h hh) (by omega) hc
            rw [Nat.mul_one, ← List.map_drop] at this
            exact this
  · by_cases hi0 : 0 < i
    · by_cases hz : x.toNat = 0
      · rw [if_pos (by omega)] at hR
        repeat (first | refine GD ?_ | refine NW fun _ => ?_)
        refine WL.step rfl (OP.call (pre := [blk r [.slice (some ⟨b, off, none⟩) n c, .int .i64 0] 122, A]) rfl rfl (wrong5_ok r A _ 0 1) PS rfl rfl ?_)
        rintro _ _ ⟨rfl, v', hv', rfl⟩
        repeat (first | refine GD ?_ | refine NW fun _ => ?_)
        subst hR
        exact ret1 rfl ⟨_, ⟨rfl, v', hv', rfl⟩, Imp.refl _⟩
      · by_cases hc1 : x.toNat < 128
        · rw [if_neg (by omega), if_pos (by omega)] at hR
          repeat (first | refine GD ?_ | refine NW fun _ => ?_)
          rw [hbits]
          subst hR
          refine ret1 rfl ⟨_, ⟨rfl, _, ⟨_, _, _, rfl, ?_, ?_, ?_⟩, rfl⟩, Imp.refl _⟩
          · dsimp only [numF]; rw [List.length_drop]; omega
          · omega
          · intro h hh
            have := readS_cut (i := i + 1) (hr h hh) (by omega) hc
            rw [Nat.mul_one, ← List.map_drop] at this
            exact this
        · rw [if_neg (by omega), if_neg (by omega)] at hR
          repeat (first | refine GD ?_ | refine NW fun _ => ?_)
          rw [hbits]
          exact ⟨(i + 1, m2), ⟨by dsimp only; omega, by dsimp only; omega, hm2, hR⟩, by dsimp only; omega, ⟨rfl, rfl, rfl, rfl, rfl, trivial⟩, Imp.refl _⟩
    · by_cases hc1 : x.toNat < 128
      · rw [if_neg (by omega), if_pos (by omega)] at hR
        repeat (first | refine GD ?_ | refine NW fun _ => ?_)
        rw [hbits]
        subst hR
        refine ret1 rfl ⟨_, ⟨rfl, _, ⟨_, _, _, rfl, ?_, ?_, ?_⟩, rfl⟩, Imp.refl _⟩
        · dsimp only [numF]; rw [List.length_drop]; omega
        · omega
        · intro h hh
          have := readS_cut (i := i + 1) (hr h hh) (by omega) hc
          rw [Nat.mul_one, ← List.map_drop] at this
          exact this
      · rw [if_neg (by omega), if_neg (by omega)] at hR
        repeat (first | refine GD ?_ | refine NW fun _ => ?_)
        rw [hbits]
        exact ⟨(i + 1, m2), ⟨by dsimp only; omega, by dsimp only; omega, hm2, hR⟩, by dsimp only; omega, ⟨rfl, rfl, rfl, rfl, rfl, trivial⟩, Imp.refl _⟩
end Go.Proofs.YtkoakmaihcheaabDoor
