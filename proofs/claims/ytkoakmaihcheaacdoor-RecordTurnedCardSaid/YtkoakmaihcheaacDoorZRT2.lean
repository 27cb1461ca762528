/- Contracts of functions of the given program, and plain laws: parts of the proofs of laws. -/
import Derived.Test.YtkoakmaihcheaacDoorZRT1
import Derived.Laws.Externs
import Derived.Stop.Asserts
import Derived.Test.YtkoakmaihcheaacDoorProg
import Derived.KernelRfl
/- Comparing structs; a quiet operation of a drawn region by its own run. -/
namespace Go.GL
open Go
/-- one field of one cell, of a plain type -/
def eqF (T : Tab) (f : Field) (xs ys : List Value) : Option Bool :=
  match T.find f.type with
  | some ⟨.int _, _, _, _, false, _⟩ => match xs[f.offset]?, ys[f.offset]? with
    | some (.int .i64 a), some (.int .i64 b) => some (decide (a = b))
    | some (.int .u64 a), some (.int .u64 b) => some (decide (a = b))
    | some (.int .u32 a), some (.int .u32 b) => some (decide (a = b))
    | some (.int .u8 a), some (.int .u8 b) => some (decide (a = b))
    | _, _ => none
  | some ⟨.string, _, _, _, false, _⟩ => match xs[f.offset]?, ys[f.offset]? with
    | some (.string a), some (.string b) => some (decide (a = b))
    | _, _ => none
  | some ⟨.bool, _, _, _, false, _⟩ => match xs[f.offset]?, ys[f.offset]? with
    | some (.bool a), some (.bool b) => some (a == b)
    | _, _ => none
  | _ => none
def eqFs (T : Tab) (xs ys : List Value) : List Field → Option Bool
  | [] => some true
  | f :: r => match eqF T f xs ys, eqFs T xs ys r with
    | some a, some b => some (a && b)
    | _, _ => none
section
variable {P : Program} {t : TypeId} {w : World} (d : Nat)
theorem equalIn_int {k0 : IntKind} (h : P.underlying t = some (.int k0)) (k : IntKind) (a b : Int) : (Op.equalIn (d + 1) t (.int k a) (.int k b)).run P w = .ok (decide (a = b)) w := by
  simp [Op.equalIn, run_underlying h]; rfl
theorem equalIn_str (h : P.underlying t = some .string) (a b : ByteArray) : (Op.equalIn (d + 1) t (.string a) (.string b)).run P w = .ok (decide (a = b)) w := by
  have e : (a == b) = decide (a = b) := by
    cases a with | mk x => cases b with | mk y =>
      have : ((⟨x⟩ : ByteArray) == ⟨y⟩) = (x == y) := rfl
      rw [this, Bool.eq_iff_iff, beq_iff_eq, decide_eq_true_eq]
      exact ⟨fun h => by rw [h], fun h => by cases h; rfl⟩
  simp [Op.equalIn, run_underlying h, e]
theorem run_part (f : Field) {i : TI} (e : TIOk P f.type i) (ha : i.agg = false) {xs : List Value} {v : Value} (hx : xs[f.offset]? = some v) : (part f.type xs.toArray f.offset).run P w = .ok v w := by
  have ha' : (isAgg f.type).run P w = .ok false w := by rw [run_isAgg e, ha]
  simp [part, ha', hx]
end
theorem eqF_ok {P : Program} {T : Tab} (hT : T.ok P) {f : Field} {xs ys : List Value} {b : Bool} (d : Nat) (h : eqF T f xs ys = some b) (w : World) :
    ∃ x y, (part f.type xs.toArray f.offset).run P w = .ok x w ∧ (part f.type ys.toArray f.offset).run P w = .ok y w ∧ (Op.equalIn (d + 1) f.type x y).run P w = .ok b w := by
  unfold eqF at h
  split at h
  · rename_i ht
    have e := Tab.find_ok hT ht
    split at h <;> first | (cases h; done) | (rename_i hx hy; cases h; exact ⟨_, _, run_part f e rfl hx, run_part f e rfl hy, equalIn_int d e.desc _ _ _⟩)
  · rename_i ht
    have e := Tab.find_ok hT ht
    split at h <;> first | (cases h; done) | (rename_i hx hy; cases h; exact ⟨_, _, run_part f e rfl hx, run_part f e rfl hy, equalIn_str d e.desc _ _⟩)
  · rename_i ht
    have e := Tab.find_ok hT ht
    split at h <;> first | (cases h; done) | (rename_i hx hy; cases h; exact ⟨_, _, run_part f e rfl hx, run_part f e rfl hy, equalIn_bool d e.desc _ _⟩)
  · cases h
theorem run_eqAgg {P : Program} {T : Tab} (hT : T.ok P) {t : TypeId} {fs : Array Field} {ti : TI} {xs ys : List Value} {b : Bool} (d : Nat) (ht : T.find t = some ti) (hdesc : ti.desc = .struct fs) (hst : P.stoodInHeld t = false) (hn : (fs.toList.all fun f => f.name != "_") = true) (hb : eqFs T xs ys fs.toList = some b) (w : World) :
    (Op.equalIn (d + 2) t (.agg xs.toArray) (.agg ys.toArray)).run P w = .ok b w := by
  have e := Tab.find_ok hT ht
  have hd := e.desc
  rw [hdesc] at hd
  unfold Op.equalIn
  simp only [Sem.run_bind, run_underlying hd, Result.andThen_ok, run_program, hst, Bool.false_eq_true, if_false]
  rw [← Array.forIn_toList]
  generalize fs.toList = l at *
  induction l generalizing b with
  | nil =>
    simp only [eqFs, Option.some.injEq] at hb
    subst hb
    simp
  | cons f r ih =>
    simp only [eqFs] at hb
    split at hb
    · rename_i a a' ha ha'
      simp only [Option.some.injEq] at hb
      subst hb
      obtain ⟨x, y, h1, h2, h3⟩ := eqF_ok hT d ha w
      simp only [List.all_cons, Bool.and_eq_true, bne_iff_ne, ne_eq] at hn
      simp only [List.forIn_cons, ne_eq, hn.1, not_false_eq_true, if_true, Sem.run_bind, h1, h2, h3, Result.andThen_ok]
      cases a with
      | false => simp
      | true =>
        have := ih hn.2 ha'
        simpa using this
    · cases hb
section
variable {G : Ctx} {N : Nat} {env : Env} {L S : List Assn} {k : Kont} {n : Nat} {fuel : Nat} {listed : Array Bool} {hd : Bool} {l : List Oper} {o : Oper} {post : Env → List Assn → Prop} {d : Nat}
/-- what a comparison of structs comes to -/
structure EqAgg (G : Ctx) (env : Env) (op : Op) (b : Bool) : Prop where
  run : ∀ N a w (o : Oper), o.op = op → Agree N env a → (execOp a.eval o).run G.P w = .ok (.value (.bool b)) w
theorem EqAgg.neq {t t2 : TypeId} {x y : Operand} {fs : Array Field} {ti : TI} {xs ys : List Value} {b : Bool} (hx : rd none env x = some (none, .agg xs.toArray)) (hy : rd none env y = some (none, .agg ys.toArray))
    (ht : G.T.find t = some ti) (hdesc : ti.desc = .struct fs) (hst : G.P.stoodInHeld t = false) (hgt : G.P.eqGuardType G.P.depth t = false) (hn : (fs.toList.all fun f => f.name != "_") = true) (hb : eqFs G.T xs ys fs.toList = some b) : EqAgg G env (.binOp .neq t x y t2) (!b) := ⟨fun N a w o ho ha => by
  rw [execOp, ho]
  refine val_run ?_
  have h1 : (eqGuard .neq t x y (.agg xs.toArray) (.agg ys.toArray)).run G.P w = .ok () w := by simp [eqGuard, hgt]
  have h2 := bin_ne rfl (run_eqAgg G.ok 9998 ht hdesc hst hn hb w)
  simp only [rd_plain hx ha, rd_plain hy ha, Sem.run_bind, h1, Result.andThen_ok, h2]⟩
theorem EqAgg.eql {t t2 : TypeId} {x y : Operand} {fs : Array Field} {ti : TI} {xs ys : List Value} {b : Bool} (hx : rd none env x = some (none, .agg xs.toArray)) (hy : rd none env y = some (none, .agg ys.toArray))
    (ht : G.T.find t = some ti) (hdesc : ti.desc = .struct fs) (hst : G.P.stoodInHeld t = false) (hgt : G.P.eqGuardType G.P.depth t = false) (hn : (fs.toList.all fun f => f.name != "_") = true) (hb : eqFs G.T xs ys fs.toList = some b) : EqAgg G env (.binOp .eql t x y t2) b := ⟨fun N a w o ho ha => by
  rw [execOp, ho]
  refine val_run ?_
  have h1 : (eqGuard .eql t x y (.agg xs.toArray) (.agg ys.toArray)).run G.P w = .ok () w := by simp [eqGuard, hgt]
  have h2 := bin_eq rfl (run_eqAgg G.ok 9998 ht hdesc hst hn hb w)
  simp only [rd_plain hx ha, rd_plain hy ha, Sem.run_bind, h1, Result.andThen_ok, h2]⟩
theorem eqF_self {T : Tab} {f : Field} {xs : List Value} {b : Bool} (h : eqF T f xs xs = some b) : b = true := by
  unfold eqF at h
  split at h
  · generalize xs[f.offset]? = o at h
    split at h <;> first | (cases h; done) | skip
    all_goals (cases h; simp_all)
  · generalize xs[f.offset]? = o at h
    split at h <;> first | (cases h; done) | skip
    all_goals (cases h; simp_all)
  · generalize xs[f.offset]? = o at h
    split at h <;> first | (cases h; done) | skip
    all_goals (cases h; simp_all)
  · cases h
theorem eqFs_self {T : Tab} {xs : List Value} : ∀ {fs : List Field} {b : Bool}, eqFs T xs xs fs = some b → b = true
  | [], b, h => by cases h; rfl
  | f :: r, b, h => by
    simp only [eqFs] at h
    split at h
    · rename_i a a' ha ha'
      cases h
      rw [eqF_self ha, eqFs_self ha']; rfl
    · cases h
theorem EqAgg.neqSelf {t t2 : TypeId} {x y : Operand} {fs : Array Field} {ti : TI} {xs : List Value} (hx : rd none env x = some (none, .agg xs.toArray)) (hy : rd none env y = some (none, .agg xs.toArray))
    (ht : G.T.find t = some ti) (hdesc : ti.desc = .struct fs) (hst : G.P.stoodInHeld t = false) (hgt : G.P.eqGuardType G.P.depth t = false) (hn : (fs.toList.all fun f => f.name != "_") = true) (hb : (eqFs G.T xs xs fs.toList).isSome = true) : EqAgg G env (.binOp .neq t x y t2) false := by
  obtain ⟨b, hb⟩ := Option.isSome_iff_exists.1 hb
  have := EqAgg.neq (t2 := t2) hx hy ht hdesc hst hgt hn hb
  rw [eqFs_self hb] at this
  exact this
theorem EqAgg.eqlSelf {t t2 : TypeId} {x y : Operand} {fs : Array Field} {ti : TI} {xs : List Value} (hx : rd none env x = some (none, .agg xs.toArray)) (hy : rd none env y = some (none, .agg xs.toArray))
    (ht : G.T.find t = some ti) (hdesc : ti.desc = .struct fs) (hst : G.P.stoodInHeld t = false) (hgt : G.P.eqGuardType G.P.depth t = false) (hn : (fs.toList.all fun f => f.name != "_") = true) (hb : (eqFs G.T xs xs fs.toList).isSome = true) : EqAgg G env (.binOp .eql t x y t2) true := by
  obtain ⟨b, hb⟩ := Option.isSome_iff_exists.1 hb
  have := EqAgg.eql (t2 := t2) hx hy ht hdesc hst hgt hn hb
  rw [eqFs_self hb] at this
  exact this
theorem OP.eqAgg {b : Bool} (e : EqAgg G env o.op b) (hd : o.dst = some d) (hN : Nat.blt d N = true) (h : post ((d, .val (.bool b)) :: env) L) : OP G N o env L post :=
  .run (fun a w ha _ => e.run N a w o rfl ha) hd hN h
theorem WH.eqAgg (i : Nat) {b : Bool} (hi : l.toArray[i]? = some o) (hg : o.guard = none) (hs : Region.noSelect l.toArray = true) (hf : Region.free .any l.toArray listed i = true) (hr : (Region.ready .any l.toArray listed).contains i = true)
    (hk : ∀ c env L, ¬ k (.panic c) env L) (hH : (hd || Nat.ble n i) = true) (e : EqAgg G env o.op b) (hdst : o.dst = some d) (hN : Nat.blt d N = true)
    (h : WH G N l.toArray n S hd fuel (listed.setIfInBounds i true) ((d, .val (.bool b)) :: env) L k) : WH G N l.toArray n S hd (fuel + 1) listed env L k := .mk fun ht a w ha hsat hS hcl => by
  have hri : i ∈ Region.ready .any l.toArray listed := by simpa using hr
  refine wpB_first (R := fun _ => True) hi (Region.noSelect_spec hs) (fun c a w => noPanic hk c a w _ _) ht (.inl fun _ => trivial) fuel listed a w hcl (Region.free_spec hi hf) hri
    (.inl ⟨by simp [Region.wanted, hg], fun w _ => e.run N a w o rfl ha⟩) trivial (fun hin => ?_) ?_
  · cases hd with
    | true => exact hS rfl
    | false => have := Nat.le_of_ble_eq_true (by simpa using hH); omega
  · rw [hdst]; exact h ht _ w (ha.put hN _) hsat hS (hcl.set hri)
end
end Go.GL
/- Slices cut; bytes. -/
namespace Go.GL
open Go
theorem cutA_none (cap l size : Nat) : cutA none cap l size = none := by unfold cutA; split <;> rfl
theorem readS_cut {a : Option Addr} {n size i cap : Nat} {cs : List Value} {h : Hp} (x : readS a n size cs h) (hi : i ≤ n) (hc : n ≤ cap) : readS (cutA a cap i size) (n - i) size (cs.drop (i * size)) h := by
  obtain ⟨e, ⟨rfl, rfl⟩ | ⟨b, off, rfl, hcell⟩⟩ := x
  · refine ⟨by rw [List.length_drop, e, Nat.sub_mul], .inl ⟨cutA_none _ _ _, by omega⟩⟩
  · refine ⟨by rw [List.length_drop, e, Nat.sub_mul], .inr ?_⟩
    unfold cutA
    split
    · rename_i hci
      have : i = n := by omega
      subst this
      rw [List.drop_eq_nil_of_le (by omega)]
      obtain ⟨c, T, fr, hb, _⟩ := hcell
      exact ⟨b, off, rfl, c, T, fr, hb, fun i v hi => by simp at hi⟩
    · refine ⟨b, off + i * size, by simp [addr_add], ?_⟩
      obtain ⟨c, T, fr, hb, hx⟩ := hcell
      refine ⟨c, T, fr, hb, fun j v hj => ?_⟩
      rw [List.getElem?_drop] at hj
      have := hx _ _ hj
      rwa [← Nat.add_assoc] at this
theorem readS_take {a : Option Addr} {n size m : Nat} {cs : List Value} {h : Hp} (x : readS a n size cs h) (hm : m ≤ n) : readS a m size (cs.take (m * size)) h := by
  have hle : m * size ≤ n * size := Nat.mul_le_mul_right _ hm
  obtain ⟨e, ⟨rfl, rfl⟩ | ⟨b, off, rfl, hcell⟩⟩ := x
  · exact ⟨by rw [List.length_take, e]; omega, .inl ⟨rfl, by omega⟩⟩
  · refine ⟨by rw [List.length_take, e]; omega, .inr ⟨b, off, rfl, ?_⟩⟩
    obtain ⟨c, T, fr, hb, hx⟩ := hcell
    refine ⟨c, T, fr, hb, fun j v hj => ?_⟩
    rw [List.getElem?_take] at hj
    split at hj
    · exact hx _ _ hj
    · cases hj
/-- bytes as a string -/
def ba (l : List UInt8) : ByteArray := ⟨l.toArray⟩
theorem strCells_ba (l : List UInt8) : strCells (ba l) = l.map byteV := by simp [strCells, ba]
theorem ba_size (l : List UInt8) : (ba l).size = l.length := by simp [ba, ByteArray.size]
theorem ba_data (s : ByteArray) : ba s.data.toList = s := by cases s; simp [ba]
/-- a slice of bytes that can be read -/
def Bytes (A : Assn) (l : List UInt8) (v : Value) : Prop := ∃ a n c, v = .slice a n c ∧ n = l.length ∧ n ≤ c ∧ ∀ h, A h → readS a n 1 (l.map byteV) h
theorem flatAt {α : Type} (enc : α → List Value) (m : Nat) (he : ∀ x, (enc x).length = m) (l : List α) (k : Nat) (h : k < l.length) : enc l[k] = ((l.flatMap enc).drop (k * m)).take m := by
  induction l generalizing k with
  | nil => simp at h
  | cons c r ih =>
    cases k with
    | zero => simp [← he c]
    | succ k =>
      have e : (k + 1) * m = m + k * m := by rw [Nat.succ_mul, Nat.add_comm]
      have := ih k (by simpa using h)
      simp only [List.flatMap_cons, List.getElem_cons_succ]
      rw [this, e, ← List.drop_drop, List.drop_left' (he c)]
theorem flatGet {α : Type} (enc : α → List Value) (m : Nat) (he : ∀ x, (enc x).length = m) (l : List α) (k j : Nat) (h : k < l.length) (hj : j < m) : (l.flatMap enc)[k * m + j]? = (enc l[k])[j]? := by
  rw [flatAt enc m he l k h, List.getElem?_take, if_pos hj, List.getElem?_drop]
theorem flatLen {α : Type} (enc : α → List Value) (m : Nat) (he : ∀ x, (enc x).length = m) (l : List α) : (l.flatMap enc).length = l.length * m := by
  induction l with
  | nil => simp
  | cons a r ih => rw [List.flatMap_cons, List.length_append, he, ih, List.length_cons, Nat.succ_mul]; omega
end Go.GL
/- make, append(nil, make(..)...), an empty literal; what a slice owns, shortened. -/
namespace Go.GL
open Go
section
variable {G : Ctx} {N : Nat} {env : Env} {L : List Assn} {k : Kont} {ops : Array Oper} {rest : List Oper} {o : Oper}
/-- A guard that was passed over itself. -/
theorem WL.guardU {j t d : Nat} {want : Bool} {oj : Oper} (hg : o.guard = some (j, want)) (hj : ops[j]? = some oj) (ht : oj.dst = some t) (hq : Env.get env t = some (.val (.tuple #[]))) (hd : o.dst = some d) (hN : Nat.blt d N = true) (h : WL G N ops rest ((d, .val undef) :: env) L k) : WL G N ops (o :: rest) env L k := .mk fun a w ha hs => by
  have hw : Region.wanted o (yielded ops a.tmps) = false := by
    have := ha.at_ _ _ hq
    simp only [Slot.fits] at this
    simp only [Region.wanted, hg, yielded, hj, ht, Option.bind_some, this]
    rfl
  unfold wpList
  rw [hw, if_neg (by simp), hd]
  exact h _ w (ha.put hN _) hs
end
section
variable {G : Ctx} {N : Nat} {env : Env} {L : List Assn} {o : Oper} {post : Env → List Assn → Prop} {d : Nat}
theorem OP.newS {n : Nat} {c : List Value} {e size : Nat} (hc : c.length = n * size) (hr : ∀ a w, Agree N env a → Sat L w → ∃ w', (execOp a.eval o).run G.P w = .ok (.value (.slice (some ⟨w.heap.size, 0, none⟩) n n)) w' ∧ w'.os = w.os ∧ w'.output = w.output ∧ w'.heap = w.heap.push (.cells c.toArray e))
    (hd : o.dst = some d) (hN : Nat.blt d N = true) (h : ∀ b, post ((d, .val (.slice (some ⟨b, 0, none⟩) n n)) :: env) (ownS (some ⟨b, 0, none⟩) n n e size c :: L)) : OP G N o env L post := .mk fun a w ha hs => by
  unfold Oper.wp
  obtain ⟨w', r, h1, h2, h3⟩ := hr a w ha hs
  rw [r]
  simp only [Oper.upon, hd]
  have hs' : Sat (blk w.heap.size c e :: L) w' := by
    have := hs.new c e
    unfold Sat at *
    rw [hpOf_heap (w := { w with heap := w.heap.push (.cells c.toArray e) }) h3 h1 h2]
    exact this
  exact ⟨_, _, ha.put hN _, stars_head_mono (fun k hk => ⟨hc, Nat.le_refl _, .inr ⟨_, [], [], rfl, by simp [hc], by simpa using hk⟩⟩) hs', h _⟩
/-- make([]T, n) -/
theorem OP.makeS {t e : TypeId} {tsl ti : TI} {x y : Operand} {n : Int} {z : List Value} {sz by_ : Nat} (ho : o.op = .makeSlice t x y) (hx : rd none env x = some (none, .int .i64 n)) (hy : rd none env y = some (none, .int .i64 n))
    (ht : G.T.find t = some tsl) (htd : tsl.desc = .slice e) (hte : G.T.find e = some ti) (hsz : szL ti = some (sz, by_)) (hz : zeroL ti = some z) (h0 : 0 ≤ n) (hb : n * by_ ≤ 140737488355328) (hmax : n ≤ 9223372036854775807)
    (hd : o.dst = some d) (hN : Nat.blt d N = true) (h : ∀ b, post ((d, .val (.slice (some ⟨b, 0, none⟩) n.toNat n.toNat)) :: env) (ownS (some ⟨b, 0, none⟩) n.toNat n.toNat e sz (repL z n.toNat) :: L)) : OP G N o env L post := by
  obtain ⟨e1, e2⟩ := szL_eq hsz
  have hz' := zeroL_eq hz
  have eE := Tab.find_ok G.ok hte
  have hzl : z.length = sz := by rw [← hz', eE.zero, e1]
  refine OP.newS (c := repL z n.toNat) (size := sz) (by rw [repL_length, hzl]) (fun a w ha _ => ?_) hd hN h
  have hu : G.P.underlying t = some (.slice e) := htd ▸ (Tab.find_ok G.ok ht).desc
  obtain ⟨x', hx', hinfo, hxs, hxb, hxz, _⟩ := run_info eE w
  have hw : IntKind.i64.wrap n = n := wrap_fit (k := .i64) (by unfold Fit; omega)
  have hbig : ¬ ((x'.bytes : Int) * n > 2 ^ 48) := by rw [hxb, e2, Int.mul_comm]; omega
  have hroom : ¬ (n.toNat * x'.bytes > roomBytes) := by
    have : ((n.toNat * x'.bytes : Nat) : Int) = n * by_ := by
      rw [Int.natCast_mul, Int.toNat_of_nonneg h0, hxb, e2]
    unfold roomBytes
    omega
  have hzc : (zeroOf ti).cells = ti.zero.toArray := eE.zcells
  have hrep := rep_eq (zeroOf ti).cells n.toNat
  have hzs : (zeroOf ti).cells.size = ti.size := by rw [hzc]; simp [eE.zero]
  rw [hzs, hzc] at hrep
  simp only [hz'] at hrep
  have hlt : ¬ n < 0 := by omega
  refine ⟨{ w with heap := w.heap.push (.cells (repL z n.toNat).toArray e) }, ?_, rfl, rfl, rfl⟩
  rw [execOp, ho]
  refine val_run' ?_
  have hbig' : ¬ (281474976710656 < (x'.bytes : Int) * n) := by simpa using hbig
  have hroom' : ¬ roomBytes < n.toNat * x'.bytes := hroom
  by_cases hzero : n.toNat * ti.size = 0
  · have hnil : repL z n.toNat = [] := List.length_eq_zero_iff.1 (by rw [repL_length, hzl, ← e1]; exact hzero)
    simp [Instr.makeSlice, run_underlying hu, rd_plain hx ha, rd_plain hy ha, asInt, asIntOf, hinfo, hw, hlt, hbig', askRoom, run_size eE, hzero, hnil, newRow]
    have : (Array.map (fun _ => (default : Value)) (Array.range 0)) = #[] := by apply Array.ext'; simp
    rw [this]
  · simp [Instr.makeSlice, run_underlying hu, rd_plain hx ha, rd_plain hy ha, asInt, asIntOf, hinfo, hw, hlt, hbig', askRoom, run_size eE, hzero, run_zero eE, hzc, hz', newRow]
    rw [← hrep]
    congr 2
    congr 1
    funext i
    rw [hzl, ← e1]
    simp
/-- append(nil, make([]T, n)...) -/
theorem OP.appendZ {t t2 e : TypeId} {tsl ti ti2 : TI} {x y : Operand} {n : Int} {z : List Value} {sz by_ : Nat} {k2 : IntKind} (ho : o.op = .call ⟨.builtin .append, #[x, y], #[t, t2]⟩) (hx : rd none env x = some (none, .slice none 0 0)) (hy : rd none env y = some (none, .int .i64 n))
    (ht : G.T.find t = some tsl) (htd : tsl.desc = .slice e) (hte : G.T.find e = some ti) (hsz : szL ti = some (sz, by_)) (hz : zeroL ti = some z) (ht2 : G.T.find t2 = some ti2) (ht2d : ti2.desc = .int k2) (h0 : 0 < n) (hs1 : 0 < sz) (hb : n * by_ ≤ 70368744177664) (hmax : n ≤ 9223372036854775807)
    (hd : o.dst = some d) (hN : Nat.blt d N = true) (h : ∀ b cap, n.toNat ≤ cap → post ((d, .val (.slice (some ⟨b, 0, none⟩) n.toNat cap)) :: env) (ownS (some ⟨b, 0, none⟩) n.toNat cap e sz (repL z n.toNat) :: L)) : OP G N o env L post := .mk fun a w ha hs => by
  obtain ⟨e1, e2⟩ := szL_eq hsz
  have hz' := zeroL_eq hz
  have eE := Tab.find_ok G.ok hte
  have hzl : z.length = sz := by rw [← hz', eE.zero, e1]
  have hu : G.P.underlying t = some (.slice e) := htd ▸ (Tab.find_ok G.ok ht).desc
  have hu2 : G.P.underlying t2 = some (.int k2) := ht2d ▸ (Tab.find_ok G.ok ht2).desc
  obtain ⟨x', hx', hinfo, hxs, hxb, hxz, _⟩ := run_info eE w
  have hinfo' : ∀ w', (typeInfo e).run G.P w' = .ok x' w' := fun w' => by obtain ⟨x2, hx2, h', _⟩ := run_info eE w'; rw [hx'] at hx2; cases hx2; exact h'
  have hw : IntKind.i64.wrap n = n := wrap_fit (k := .i64) (by unfold Fit; omega)
  have hlt : ¬ n < 0 := by omega
  have hbig : ¬ (281474976710656 < n * (x'.bytes : Int)) := by rw [hxb, e2]; omega
  obtain ⟨m, rfl⟩ : ∃ m : Nat, n = m := ⟨n.toNat, by omega⟩
  have hm : 0 < m := by omega
  have hcapb : ¬ (281474976710656 < Builtin.nextslicecap m 0 * x'.bytes) := by
    have h1 := nextcap_le m 0 hm
    have h2 : Builtin.nextslicecap m 0 * x'.bytes ≤ 2 * m * x'.bytes := Nat.mul_le_mul_right _ h1
    have h3 : (m : Int) * by_ ≤ 70368744177664 := hb
    have h4 : m * x'.bytes ≤ 70368744177664 := by
      rw [hxb, e2]
      have : ((m * by_ : Nat) : Int) = (m : Int) * by_ := Int.natCast_mul m by_
      omega
    rw [Nat.mul_assoc] at h2
    omega
  have hfo : (Question.appendCap m 0 e).forced = false := rfl
  obtain ⟨cap, hcap, hge⟩ : ∃ cap, (Question.appendCap m 0 e).cut (w.tape w.drawn (Question.appendCap m 0 e)) = cap ∧ m ≤ cap := ⟨_, rfl, by simp only [Question.cut]; omega⟩
  have hzc : (zeroOf ti).cells = ti.zero.toArray := eE.zcells
  have hzero : ¬ (m * ti.size = 0) := by
    have : 0 < m * ti.size := Nat.mul_pos hm (by omega)
    omega
  have hs1 : Sat L w.drew := hs
  have hnew := Sat.new hs1 ((Builtin.zeroCells (zeroOf ti).cells m).toList ++ (Builtin.zeroCells (zeroOf ti).cells (cap - m)).toList) e
  unfold Oper.wp
  have hmi : ¬ (9223372036854775807 < (m : Int)) := by omega
  have hfc : ∀ w', (Builtin.firstCells ti.size 0 (.slice none 0 0)).run G.P w' = .ok #[] w' := fun w' => by simp [Builtin.firstCells]
  have hr : (execOp a.eval o).run G.P w = .ok (.value (.slice (some ⟨w.heap.size, 0, none⟩) m cap)) { w.drew with heap := w.heap.push (.cells ((Builtin.zeroCells (zeroOf ti).cells m).toList ++ (Builtin.zeroCells (zeroOf ti).cells (cap - m)).toList).toArray e) } := by
    rw [execOp, ho]
    have hm0 : ¬ m = 0 := by omega
    simp [resolve, invoke, builtin, rd_plain hx ha, rd_plain hy ha, Builtin.append_, run_underlying hu, run_underlying hu2, run_size eE, asInt, asIntOf, hw, hlt, hinfo', hbig, hm0, hmi, hcapb, hfo, hcap, hfc, hzero, run_zero eE, newRow]
    have earr : (Builtin.zeroCells (zeroOf ti).cells m ++ Builtin.zeroCells (zeroOf ti).cells (cap - m)) = ((Builtin.zeroCells (zeroOf ti).cells m).toList ++ (Builtin.zeroCells (zeroOf ti).cells (cap - m)).toList).toArray := by
      apply Array.ext'; simp
    rw [earr]
    rfl
  rw [hr]
  simp only [Oper.upon, hd]
  have hrep : ∀ k, (Builtin.zeroCells (zeroOf ti).cells k).toList = repL z k := fun k => by
    unfold Builtin.zeroCells
    rw [rep_eq, hzc, hz']
  rw [hrep, hrep] at *
  have h := h w.heap.size cap hge
  rw [Int.toNat_natCast] at h
  refine ⟨_, _, ha.put hN _, stars_head_mono (fun k hk => ⟨by rw [repL_length, hzl], hge, .inr ⟨_, [], repL z (cap - m), rfl, ?_, by simpa using hk⟩⟩) hnew, h⟩
  rw [repL_length, repL_length, hzl, ← Nat.add_mul]
  exact Nat.mul_le_mul_right _ (by omega)
/-- cap(s) -/
theorem OP.capS {t e : TypeId} {tsl : TI} {x : Operand} {a : Option Addr} {n c : Nat} (ho : o.op = .call ⟨.builtin .cap, #[x], #[t]⟩) (hx : rd none env x = some (none, .slice a n c)) (ht : G.T.find t = some tsl) (htd : tsl.desc = .slice e)
    (hd : o.dst = some d) (hN : Nat.blt d N = true) (h : post ((d, .val (.int .i64 c)) :: env) L) : OP G N o env L post :=
  .run (fun ac w ha _ => by
    have hu : G.P.underlying t = some (.slice e) := htd ▸ (Tab.find_ok G.ok ht).desc
    rw [execOp, ho]
    simp [resolve, invoke, builtin, rd_plain hx ha, Builtin.cap_, run_underlying hu, goInt]) hd hN h
/-- []T without elements -/
theorem OP.lit0 {t e : TypeId} {tsl ti : TI} {size : Nat} (ho : o.op = .buildSlice t 0 #[]) (ht : G.T.find t = some tsl) (htd : tsl.desc = .slice e) (hte : G.T.find e = some ti)
    (hd : o.dst = some d) (hN : Nat.blt d N = true) (h : ∀ b, post ((d, .val (.slice (some ⟨b, 0, none⟩) 0 0)) :: env) (ownS (some ⟨b, 0, none⟩) 0 0 e size [] :: L)) : OP G N o env L post := by
  have eE := Tab.find_ok G.ok hte
  refine OP.newS (c := []) (size := size) (by simp) (fun a w ha _ => ?_) hd hN h
  have hu : G.P.underlying t = some (.slice e) := htd ▸ (Tab.find_ok G.ok ht).desc
  refine ⟨{ w with heap := w.heap.push (.cells #[] e) }, ?_, rfl, rfl, rfl⟩
  rw [execOp, ho]
  refine val_run' ?_
  have : (Array.map (fun _ => (default : Value)) (Array.range 0)) = #[] := by apply Array.ext'; simp
  simp [Instr.buildSlice, run_underlying hu, run_size eE, Instr.fill, newRow, this]
/-- what a slice owns, cut at its end: the rest becomes room -/
theorem ownS_take {a : Option Addr} {n cap m size : Nat} {T : TypeId} {cs : List Value} {h : Hp} (x : ownS a n cap T size cs h) (hm : m ≤ n) : ownS a m cap T size (cs.take (m * size)) h := by
  have hle : m * size ≤ n * size := Nat.mul_le_mul_right _ hm
  obtain ⟨e, le, ⟨rfl, rfl⟩ | ⟨b, pre, post, rfl, hc, x⟩⟩ := x
  · have : m = 0 := by omega
    subst this
    exact ⟨by simp, Nat.le_refl _, .inl ⟨rfl, rfl⟩⟩
  · refine ⟨by rw [List.length_take, e]; omega, by omega, .inr ⟨b, pre, cs.drop (m * size) ++ post, rfl, ?_, ?_⟩⟩
    · rw [List.length_take, List.length_append, List.length_drop]; omega
    · rw [← List.append_assoc, List.append_assoc pre, List.take_append_drop]; exact x
theorem Imp.ownTake {a : Option Addr} {n cap m size : Nat} {T : TypeId} {cs : List Value} (hm : m ≤ n) : Imp (ownS a n cap T size cs :: L) (ownS a m cap T size (cs.take (m * size)) :: L) := fun _ s => stars_head_mono (fun _ x => ownS_take x hm) s
end
end Go.GL
/- Quiet operations of drawn regions, guarded or not, by what they come to. -/
namespace Go.GL
open Go
/-- What an operation comes to where S holds; it changes nothing. -/
structure Quiet (G : Ctx) (N : Nat) (env : Env) (S : List Assn) (o : Oper) (v : Value) : Prop where
  run : ∀ a w, Agree N env a → Sat S w → (execOp a.eval o).run G.P w = .ok (.value v) w
section
variable {G : Ctx} {N : Nat} {env : Env} {L S : List Assn} {o : Oper} {post : Env → List Assn → Prop} {d : Nat}
theorem Quiet.pure {nw : Bool} {c : Option Prop} {v : Value} (he : ev G.T nw none env o.op = some (c, v)) (hc : Holds c) : Quiet G N env S o v := ⟨fun _ w ha _ => ev_ok G.ok he hc trivial ha w⟩
theorem Quiet.load {t : TypeId} {x : Operand} {b off : Nat} {ti : TI} {v : Value} (ho : o.op = .load t x) (hx : rd none env x = some (none, .pointer (some ⟨b, off, none⟩))) (hti : G.T.find t = some ti) (hv : Loads S ti b off v) : Quiet G N env S o v :=
  ⟨fun _ _ ha hs => run_loads G.ok ho (rd_plain hx ha) hti hv hs⟩
theorem Quiet.eqAgg {b : Bool} (e : EqAgg G env o.op b) : Quiet G N env S o (.bool b) := ⟨fun a w ha _ => e.run N a w o rfl ha⟩
theorem Quiet.pickT {x y z : Operand} {v : Value} (ho : o.op = .pick x y z) (hx : rd none env x = some (none, .bool true)) (hv : rd none env y = some (none, v)) : Quiet G N env S o v :=
  ⟨fun a w ha _ => by rw [execOp, ho]; simp [rd_plain hx ha, rd_plain hv ha, asBool]⟩
theorem Quiet.pickF {x y z : Operand} {v : Value} (ho : o.op = .pick x y z) (hx : rd none env x = some (none, .bool false)) (hv : rd none env z = some (none, v)) : Quiet G N env S o v :=
  ⟨fun a w ha _ => by rw [execOp, ho]; simp [rd_plain hx ha, rd_plain hv ha, asBool]⟩
/-- string(b) -/
theorem Quiet.toStr {s t e : TypeId} {x : Operand} {a : Option Addr} {n cap : Nat} {sv : ByteArray} {tis tit tie : TI} (ho : o.op = .convert s t x) (hx : rd none env x = some (none, .slice a n cap)) (hs : G.T.find s = some tis) (hsd : tis.desc = .slice e) (ht : G.T.find t = some tit) (htd : tit.desc = .string)
    (hte : G.T.find e = some tie) (hed : tie.desc = .int .u8) (hr : Ent S (readS a n 1 (strCells sv))) : Quiet G N env S o (.string sv) :=
  ⟨fun ac w ha hsat => by
    have us : G.P.underlying s = some (.slice e) := hsd ▸ (Tab.find_ok G.ok hs).desc
    have ut : G.P.underlying t = some .string := htd ▸ (Tab.find_ok G.ok ht).desc
    have ue : G.P.underlying e = some (.int .u8) := hed ▸ (Tab.find_ok G.ok hte).desc
    rw [execOp, ho]
    refine val_run ?_
    obtain ⟨e1, hh⟩ := hr _ hsat
    simp only [convert, Sem.run_bind, run_underlying us, run_underlying ut, Result.andThen_ok, rd_plain hx ha, run_underlying ue]
    rcases hh with ⟨rfl, rfl⟩ | ⟨b, off, rfl, hc⟩
    · have : sv = ByteArray.empty := by
        rw [strCells_length] at e1
        have h0 : sv.size = 0 := by simpa using e1
        exact ByteArray.size_eq_zero_iff.1 h0
      simp [Conv.bytesToString, this]
    · have hl := run_cells (P := G.P) hc (strCells sv).length 0 #[] (by omega)
      simp only [List.drop_zero, Array.empty_append] at hl
      have e1 : (strCells sv).length = n := by simpa using e1
      have hl' : (loadCells ⟨b, off, none⟩ n).run G.P w = .ok (strCells sv).toArray w := by rw [← e1]; exact hl
      simp only [Conv.bytesToString, Sem.run_bind, hl', Result.andThen_ok]
      rw [List.forIn_toArray]
      unfold strCells
      rw [push_all (fun b s => by simp [byteV]) sv.data.toList ByteArray.empty G.P w]
      simp⟩
theorem OP.quiet {v : Value} (h : Quiet G N env L o v) (hd : o.dst = some d) (hN : Nat.blt d N = true) (k : post ((d, .val v) :: env) L) : OP G N o env L post := .run (fun a w ha hs => h.run a w ha hs) hd hN k
end
section
variable {G : Ctx} {N : Nat} {env : Env} {L S : List Assn} {k : Kont} {n : Nat} {fuel : Nat} {listed : Array Bool} {l : List Oper} {o : Oper}
theorem WH.q (i : Nat) {d : Nat} {v : Value} (hi : l.toArray[i]? = some o) (hg : o.guard = none) (hs : Region.noSelect l.toArray = true) (hf : Region.free .any l.toArray listed i = true) (hr : (Region.ready .any l.toArray listed).contains i = true)
    (hk : ∀ c env L, ¬ k (.panic c) env L) (hin : Nat.blt i n = true) (hq : Quiet G N env S o v) (hdst : o.dst = some d) (hN : Nat.blt d N = true)
    (h : WH G N l.toArray n S true fuel (listed.setIfInBounds i true) ((d, .val v) :: env) L k) : WH G N l.toArray n S true (fuel + 1) listed env L k := .mk fun ht a w ha hsat hS hcl => by
  have hri : i ∈ Region.ready .any l.toArray listed := by simpa using hr
  have hin' : i < n := by simpa [Nat.blt_eq] using hin
  refine wpB_first (R := Sat S) hi (Region.noSelect_spec hs) (fun c a w => noPanic hk c a w _ _) ht (.inr ⟨hin', fun _ h => h⟩) fuel listed a w hcl (Region.free_spec hi hf) hri
    (.inl ⟨by simp [Region.wanted, hg], fun w hw => hq.run a w ha hw⟩) (hS rfl) (fun _ => hS rfl) ?_
  rw [hdst]; exact h ht _ w (ha.put hN v) hsat hS (hcl.set hri)
/-- its guard says yes -/
theorem WH.gT (i : Nat) {j jt d : Nat} {want : Bool} {oj : Oper} {v : Value} (hi : l.toArray[i]? = some o) (hg : o.guard = some (j, want)) (hj : l.toArray[j]? = some oj) (hjt : oj.dst = some jt) (hw : gdOf env jt want = some true)
    (hs : Region.noSelect l.toArray = true) (hf : Region.free .any l.toArray listed i = true) (hr : (Region.ready .any l.toArray listed).contains i = true)
    (hk : ∀ c env L, ¬ k (.panic c) env L) (hin : Nat.blt i n = true) (hq : Quiet G N env S o v) (hdst : o.dst = some d) (hN : Nat.blt d N = true)
    (h : WH G N l.toArray n S true fuel (listed.setIfInBounds i true) ((d, .val v) :: env) L k) : WH G N l.toArray n S true (fuel + 1) listed env L k := .mk fun ht a w ha hsat hS hcl => by
  have hri : i ∈ Region.ready .any l.toArray listed := by simpa using hr
  have hin' : i < n := by simpa [Nat.blt_eq] using hin
  have hw := gdOf_ok (ops := l.toArray) ha hw hj hjt hg
  refine wpB_first (R := Sat S) hi (Region.noSelect_spec hs) (fun c a w => noPanic hk c a w _ _) ht (.inr ⟨hin', fun _ h => h⟩) fuel listed a w hcl (Region.free_spec hi hf) hri
    (.inl ⟨hw, fun w hw => hq.run a w ha hw⟩) (hS rfl) (fun _ => hS rfl) ?_
  rw [hdst]; exact h ht _ w (ha.put hN v) hsat hS (hcl.set hri)
/-- what a guard's temporary says no to -/
def gdNo (env : Env) (t : Nat) (want : Bool) : Bool :=
  match want, Env.get env t with
  | true, some (.val (.bool false)) => true
  | false, some (.val (.bool true)) => true
  | _, some (.val (.tuple ⟨[]⟩)) => true
  | _, _ => false
theorem gdNo_ok {a : Act} (ha : Agree N env a) {t : Nat} {want : Bool} (h : gdNo env t want = true) {ops : Array Oper} {j : Nat} {oj : Oper} (hj : ops[j]? = some oj) (hd : oj.dst = some t) (hg : o.guard = some (j, want)) :
    Region.wanted o (yielded ops a.tmps) = false := by
  simp only [Region.wanted, hg, yielded, hj, hd, Option.bind_some]
  unfold gdNo at h
  split at h
  · rename_i hs
    have := ha.at_ _ _ hs
    simp only [Slot.fits] at this
    rw [this]
    rfl
  · rename_i hs
    have := ha.at_ _ _ hs
    simp only [Slot.fits] at this
    rw [this]
    rfl
  · rename_i hs
    have := ha.at_ _ _ hs
    simp only [Slot.fits] at this
    rw [this]
    rfl
  · cases h
/-- its guard says no -/
theorem WH.gF (i : Nat) {j jt d : Nat} {want : Bool} {oj : Oper} (hi : l.toArray[i]? = some o) (hg : o.guard = some (j, want)) (hj : l.toArray[j]? = some oj) (hjt : oj.dst = some jt) (hw : gdNo env jt want = true)
    (hs : Region.noSelect l.toArray = true) (hf : Region.free .any l.toArray listed i = true) (hr : (Region.ready .any l.toArray listed).contains i = true)
    (hk : ∀ c env L, ¬ k (.panic c) env L) (hin : Nat.blt i n = true) (hdst : o.dst = some d) (hN : Nat.blt d N = true)
    (h : WH G N l.toArray n S true fuel (listed.setIfInBounds i true) ((d, .val undef) :: env) L k) : WH G N l.toArray n S true (fuel + 1) listed env L k := .mk fun ht a w ha hsat hS hcl => by
  have hri : i ∈ Region.ready .any l.toArray listed := by simpa using hr
  have hin' : i < n := by simpa [Nat.blt_eq] using hin
  have hw := gdNo_ok (ops := l.toArray) ha hw hj hjt hg
  refine wpB_first (R := Sat S) (v := undef) hi (Region.noSelect_spec hs) (fun c a w => noPanic hk c a w _ _) ht (.inr ⟨hin', fun _ h => h⟩) fuel listed a w hcl (Region.free_spec hi hf) hri
    (.inr ⟨hw, rfl⟩) (hS rfl) (fun _ => hS rfl) ?_
  rw [hdst]; exact h ht _ w (ha.put hN _) hsat hS (hcl.set hri)
end
section
variable {G : Ctx} {env : Env} {L : List Assn}
theorem ret2c {p : Value → List Assn → Prop} {t u ty b off : Nat} {ti : TI} {v : Value} {l : List Value} (h1 : Env.get env t = some (.val v)) (h2 : Env.get env u = some (.val (.pointer (some ⟨b, off, none⟩)))) (ht : G.T.find ty = some ti) (hg : ti.agg = true) (hl : l.length = ti.size) (hc : Ent L (cellsAt b off l)) (h : p (.tuple #[v, .agg l.toArray]) L) :
    retK G [.tmp t, .cell u ty] p .ret env L := ⟨[v, .agg l.toArray], ⟨v, [.agg l.toArray], rfl, h1, b, off, _, [], ti, rfl, h2, ht, .inr ⟨hg, l, rfl, hl, hc⟩, rfl⟩, h⟩
theorem ret3c {p : Value → List Assn → Prop} {t u s ty b off : Nat} {ti : TI} {v x : Value} {l : List Value} (h1 : Env.get env t = some (.val v)) (h2 : Env.get env u = some (.val (.pointer (some ⟨b, off, none⟩)))) (h3 : Env.get env s = some (.val x)) (ht : G.T.find ty = some ti) (hg : ti.agg = true) (hl : l.length = ti.size) (hc : Ent L (cellsAt b off l)) (h : p (.tuple #[v, .agg l.toArray, x]) L) :
    retK G [.tmp t, .cell u ty, .tmp s] p .ret env L := ⟨[v, .agg l.toArray, x], ⟨v, [.agg l.toArray, x], rfl, h1, b, off, _, [x], ti, rfl, h2, ht, .inr ⟨hg, l, rfl, hl, hc⟩, x, [], rfl, h3, rfl⟩, h⟩
end
end Go.GL
/- Calls of functions without a body, by what they come to; calls through an interface. -/
namespace Go.GL
open Go
/-- A function without a body, and what it comes to. -/
def IsExt (P : Program) (f : FuncId) (e : Array Value → Sem Value) : Prop := ∀ args w, (callFunc f args).run P w = ((e args).run P w).andThen fun v w' => .ok (.value v) w'
section
variable {G : Ctx} {N : Nat} {env : Env} {L : List Assn} {o : Oper} {post : Env → List Assn → Prop} {d : Nat}
/-- What an operation that calls such a function comes to. -/
structure Execs (G : Ctx) (N : Nat) (env : Env) (o : Oper) (e : Array Value → Sem Value) (args : List Value) : Prop where
  run : ∀ a w, Agree N env a → (execOp a.eval o).run G.P w = ((e args.toArray).run G.P w).andThen fun v w' => .ok (.value v) w'
theorem Execs.call {f : FuncId} {xs : List Operand} {ats : Array TypeId} {vs : List Value} {e : Array Value → Sem Value} (he : IsExt G.P f e) (ho : o.op = .call ⟨.value (.func f), xs.toArray, ats⟩) (hv : rdAll env xs = some vs) : Execs G N env o e vs := ⟨fun a w ha => by
  rw [← he]
  simp only [execOp, ho, resolve, Act.eval, Deferred.ofValue, Sem.run_bind, Sem.run_pure, Result.andThen_ok, invoke]
  have := rdAll_ok ha hv
  simp [← this]⟩
theorem Execs.inv {f : FuncId} {recv : Operand} {name : String} {xs : List Operand} {ats : Array TypeId} {vs : List Value} {t : TypeId} {x r : Value} {e : Array Value → Sem Value} (he : IsExt G.P f e) (ho : o.op = .call ⟨.invoke recv name, xs.toArray, ats⟩) (hx : rd none env recv = some (none, .iface t x)) (hv : rdAll env xs = some vs)
    (hm : ∀ w, (method (G.P.types.size + Made.depth) t x name).run G.P w = .ok (f, r) w) : Execs G N env o e (r :: vs) := ⟨fun a w ha => by
  rw [← he]
  have h1 := rdAll_ok ha hv
  have h2 := rd_plain hx ha
  simp only [execOp, ho, resolve, Sem.run_bind, Sem.run_pure, Result.andThen_ok, invoke]
  simp [h2, h1, callMethod, hm]⟩
theorem OP.extP {e : Array Value → Sem Value} {vs : List Value} {v : Value} (x : Execs G N env o e vs) (hr : ∀ w, Sat L w → (e vs.toArray).run G.P w = .ok v w) (hd : o.dst = some d) (hN : Nat.blt d N = true) (h : post ((d, .val v) :: env) L) : OP G N o env L post :=
  .run (fun a w ha hs => by rw [x.run a w ha, hr w hs]; rfl) hd hN h
theorem OP.extNew {e : Array Value → Sem Value} {vs : List Value} {c : List Value} {T : TypeId} {mk : Nat → Value} (x : Execs G N env o e vs) (hr : ∀ w, Sat L w → (e vs.toArray).run G.P w = .ok (mk w.heap.size) (w.alloc (.cells c.toArray T))) (hd : o.dst = some d) (hN : Nat.blt d N = true)
    (h : ∀ b, post ((d, .val (mk b)) :: env) (blk b c T :: L)) : OP G N o env L post := .mk fun a w ha hs => by
  unfold Oper.wp
  rw [x.run a w ha, hr w hs]
  simp only [Result.andThen_ok, Oper.upon, hd]
  exact ⟨_, _, ha.put hN _, hs.new c T, h _⟩
theorem OP.extSet {e : Array Value → Sem Value} {vs : List Value} {v : Value} {b off : Nat} {c : List Value} {T : TypeId} {y : Value} {M : List Assn} (x : Execs G N env o e vs) (hr : ∀ w, Sat L w → (e vs.toArray).run G.P w = .ok v (w.setCell ⟨b, off, none⟩ y)) (hu : Upd L b c T (c.set off y) M) (hd : o.dst = some d) (hN : Nat.blt d N = true)
    (h : post ((d, .val v) :: env) M) : OP G N o env L post := .mk fun a w ha hs => by
  unfold Oper.wp
  rw [x.run a w ha, hr w hs]
  simp only [Result.andThen_ok, Oper.upon, hd]
  exact ⟨_, _, ha.put hN _, Sat.set hu hs, h⟩
/-- x.(I), with comma-ok -/
theorem OP.assert {x : Operand} {xT I t : TypeId} {v r : Value} (ho : o.op = .typeAssert x xT I true) (hx : rd none env x = some (none, .iface t v)) (hr : ∀ w, (Instr.typeAssert (.iface t v) xT I true).run G.P w = .ok r w) (hd : o.dst = some d) (hN : Nat.blt d N = true) (h : post ((d, .val r) :: env) L) : OP G N o env L post :=
  .run (fun a w ha _ => by
    rw [execOp, ho]
    refine val_run ?_
    rw [rd_plain hx ha]
    exact hr w) hd hN h
/-- a method that has a body, called through an interface -/
theorem OP.invRO {f : FuncId} {recv : Operand} {name : String} {ats : Array TypeId} {t : TypeId} {x r v : Value} {R : Assn} (ho : o.op = .call ⟨.invoke recv name, #[], ats⟩) (hx : rd none env recv = some (none, .iface t x))
    (hm : ∀ w, (method (G.P.types.size + Made.depth) t x name).run G.P w = .ok (f, r) w) (ht : RO G f [r] R v) (he : Ent L R) (hd : o.dst = some d) (hN : Nat.blt d N = true) (h : post ((d, .val v) :: env) L) : OP G N o env L post := .mk fun a w ha hs => by
  obtain ⟨dst, op, type, pos, after, guard⟩ := o
  simp only at ho hd
  subst ho hd
  have hcall : (execOp a.eval ⟨some d, .call ⟨.invoke recv name, #[], ats⟩, type, pos, after, guard⟩).run G.P w = .ok (.enter f [r].toArray) w := by
    obtain ⟨fn, c, h1, h2, h3⟩ := ht.enters.ex
    have h2' := rd_plain hx ha
    simp only [execOp, resolve, Sem.run_bind, Sem.run_pure, Result.andThen_ok, invoke]
    have h4 : ¬ fn.name = "runtime.NumGoroutine" := by simpa using h2
    simp [h2', callMethod, hm, callFunc, h1, h4, h3]
  unfold Oper.wp
  rw [hcall]
  simp only [Oper.upon]
  refine (ht.calls w (he _ hs)).mono ?_
  rintro e w' ⟨rfl, x⟩
  exact ⟨_, _, ha.put hN v, hs.ext x, h⟩
end
end Go.GL
/- In a drawn region: what its loads lean on may grow. -/
namespace Go.GL
open Go
theorem wpB_more {P : Program} {ops : Array Oper} {Q : Exit → Act → World → Prop} {S S' : World → Prop} {n : Nat} (h : ∀ w, S' w → S w) :
    ∀ (fuel : Nat) (listed : Array Bool) (a : Act) (w : World), wpB P ops Q S' n fuel listed a w → wpB P ops Q S n fuel listed a w
  | 0, _, _, _, x => x
  | fuel + 1, _, _, _, x => ⟨x.1, fun i hi => wpOp_mono (fun a' w' y => ⟨fun hin => h _ (y.1 hin), wpB_more h fuel _ a' w' y.2⟩) (x.2 i hi)⟩
/-- from here on the loads may lean on more -/
theorem WH.more {G : Ctx} {N : Nat} {ops : Array Oper} {n : Nat} {S : List Assn} (S' : List Assn) {fuel : Nat} {listed : Array Bool} {env : Env} {L : List Assn} {k : Kont} (hS : Imp S' S) (hL : Imp L S') (h : WH G N ops n S' true fuel listed env L k) : WH G N ops n S true fuel listed env L k :=
  .mk fun ht a w ha hs _ hcl => wpB_more (fun _ x => hS.sat x) fuel listed a w (h.go ht a w ha hs (fun _ => hL.sat hs) hcl)
end Go.GL
/- Short words for the steps of a proof. -/
namespace Go.GL
open Go
structure Hd (Q : Prop) : Prop where
  h : Q
theorem MM {α : Type} {a : α} {l : List α} (h : a ∈ l := by repeat (first | exact List.Mem.head _ | apply List.Mem.tail)) : a ∈ l := h
theorem II {L M : List Assn} (h : Imp L M := by exact (Imp.sub (by repeat (first | exact Picks.nil _ | apply Picks.cons | exact Pick.here _ _ | apply Pick.there)))) : Imp L M := h
theorem P1 {L M : List Assn} (h : Imp L M := by exact (Pick.imp (by repeat (first | exact Pick.here _ _ | apply Pick.there)))) : Imp L M := h
theorem PS {L M : List Assn} (h : Imp L M := by exact (Picks.imp (by repeat (first | exact Picks.nil _ | apply Picks.cons | exact Pick.here _ _ | apply Pick.there)))) : Imp L M := h
theorem UP {L M : List Assn} {b off : Nat} {vs : List Value} (h : UpdM L b off vs M := by exact (by repeat (first | exact UpdM.here rfl | apply UpdM.there))) : UpdM L b off vs M := h
theorem HN {L : List Assn} {b off : Nat} {v : Value} (h : HasNth L b off v := by exact (by repeat (first | exact HasNth.here rfl | apply HasNth.there))) : HasNth L b off v := h
theorem HC {L : List Assn} {b off n : Nat} {l : List Value} (h : HasCut L b off n l := by exact (by repeat (first | exact HasCut.here rfl | apply HasCut.there))) : HasCut L b off n l := h
theorem GO {P Q : Prop} (h : Q) (s : Hd Q → P := by
  intro hh
  (first
    | refine WC.seq ?_ | refine WC.region ?_ | refine WL.nil ?_ | with_reducible refine seqK.go ?_ | refine WC.block ?_ | refine WC.skip ?_ | refine WC.exit ?_ | refine WC.ret ?_
    | with_reducible refine seqK.exit ?_ | with_reducible refine seqK.ret ?_ | (with_reducible refine blockK.hit ?hb ?_; (case hb => rfl)) | (with_reducible refine blockK.miss ?hb ?_; (case hb => rfl)) | with_reducible refine blockK.normal ?_ | with_reducible refine blockK.ret ?_ | with_reducible refine loopK.exit ?_ | with_reducible refine loopK.ret ?_
    | refine WC.condT rfl ?_ | refine WC.condF rfl ?_
    | (refine WL.step rfl ?_; first | refine OP.pure (nw := true) rfl (by first | exact trivial | (simp only [Holds]; omega) | (simp [Holds]; done) | (simp [Holds]; omega)) rfl rfl ?_ | refine OP.pure (nw := false) rfl (by first | exact trivial | (simp only [Holds]; omega) | (simp [Holds]; done) | (simp [Holds]; omega)) rfl rfl ?_ | refine OP.pickT rfl rfl rfl rfl rfl ?_ | refine OP.pickF rfl rfl rfl rfl rfl ?_ | refine OP.loadN rfl rfl rfl rfl (by repeat (first | exact HasNth.here rfl | apply HasNth.there)) rfl rfl ?_ | refine OP.loadB rfl rfl rfl rfl rfl (by repeat (first | exact HasCut.here rfl | apply HasCut.there)) rfl rfl ?_ | refine OP.store rfl rfl rfl rfl rfl rfl rfl (by repeat (first | exact UpdM.here rfl | apply UpdM.there)) rfl ?_ | refine OP.buildT rfl rfl rfl rfl ?_ | refine OP.capS rfl rfl rfl rfl rfl rfl ?_)
    | (refine WL.guardT rfl rfl rfl rfl ?_; first | refine OP.pickT rfl rfl rfl rfl rfl ?_ | refine OP.pickF rfl rfl rfl rfl rfl ?_ | refine OP.pure (nw := true) rfl (by first | exact trivial | (simp only [Holds]; omega) | (simp [Holds]; done) | (simp [Holds]; omega)) rfl rfl ?_ | refine OP.pure (nw := false) rfl trivial rfl rfl ?_ | refine OP.loadN rfl rfl rfl rfl (by repeat (first | exact HasNth.here rfl | apply HasNth.there)) rfl rfl ?_ | refine OP.loadB rfl rfl rfl rfl rfl (by repeat (first | exact HasCut.here rfl | apply HasCut.there)) rfl rfl ?_ | refine OP.buildT rfl rfl rfl rfl ?_)
    | refine WL.guardF rfl rfl rfl rfl rfl rfl ?_ | refine WL.guardU rfl rfl rfl rfl rfl rfl ?_ | refine WL.guarded (nw := true) rfl rfl rfl rfl rfl rfl rfl (by first | exact trivial | (simp only [Holds]; omega) | (simp [Holds]; done) | (simp [Holds]; omega)) ?_)
  repeat (first
    | refine WC.seq ?_ | refine WC.region ?_ | refine WL.nil ?_ | with_reducible refine seqK.go ?_ | refine WC.block ?_ | refine WC.skip ?_ | refine WC.exit ?_ | refine WC.ret ?_
    | with_reducible refine seqK.exit ?_ | with_reducible refine seqK.ret ?_ | (with_reducible refine blockK.hit ?hb ?_; (case hb => rfl)) | (with_reducible refine blockK.miss ?hb ?_; (case hb => rfl)) | with_reducible refine blockK.normal ?_ | with_reducible refine blockK.ret ?_ | with_reducible refine loopK.exit ?_ | with_reducible refine loopK.ret ?_
    | refine WC.condT rfl ?_ | refine WC.condF rfl ?_
    | (refine WL.step rfl ?_; first | refine OP.pure (nw := true) rfl (by first | exact trivial | (simp only [Holds]; omega) | (simp [Holds]; done) | (simp [Holds]; omega)) rfl rfl ?_ | refine OP.pure (nw := false) rfl (by first | exact trivial | (simp only [Holds]; omega) | (simp [Holds]; done) | (simp [Holds]; omega)) rfl rfl ?_ | refine OP.pickT rfl rfl rfl rfl rfl ?_ | refine OP.pickF rfl rfl rfl rfl rfl ?_ | refine OP.loadN rfl rfl rfl rfl (by repeat (first | exact HasNth.here rfl | apply HasNth.there)) rfl rfl ?_ | refine OP.loadB rfl rfl rfl rfl rfl (by repeat (first | exact HasCut.here rfl | apply HasCut.there)) rfl rfl ?_ | refine OP.store rfl rfl rfl rfl rfl rfl rfl (by repeat (first | exact UpdM.here rfl | apply UpdM.there)) rfl ?_ | refine OP.buildT rfl rfl rfl rfl ?_ | refine OP.capS rfl rfl rfl rfl rfl rfl ?_)
    | (refine WL.guardT rfl rfl rfl rfl ?_; first | refine OP.pickT rfl rfl rfl rfl rfl ?_ | refine OP.pickF rfl rfl rfl rfl rfl ?_ | refine OP.pure (nw := true) rfl (by first | exact trivial | (simp only [Holds]; omega) | (simp [Holds]; done) | (simp [Holds]; omega)) rfl rfl ?_ | refine OP.pure (nw := false) rfl trivial rfl rfl ?_ | refine OP.loadN rfl rfl rfl rfl (by repeat (first | exact HasNth.here rfl | apply HasNth.there)) rfl rfl ?_ | refine OP.loadB rfl rfl rfl rfl rfl (by repeat (first | exact HasCut.here rfl | apply HasCut.there)) rfl rfl ?_ | refine OP.buildT rfl rfl rfl rfl ?_)
    | refine WL.guardF rfl rfl rfl rfl rfl rfl ?_ | refine WL.guardU rfl rfl rfl rfl rfl rfl ?_ | refine WL.guarded (nw := true) rfl rfl rfl rfl rfl rfl rfl (by first | exact trivial | (simp only [Holds]; omega) | (simp [Holds]; done) | (simp [Holds]; omega)) ?_)
  exact hh.h) : P := s ⟨h⟩
theorem GD {P Q : Prop} (h : Q) (s : Hd Q → P := by
  intro hh
  (first
    | refine WC.seq ?_ | refine WC.region ?_ | refine WL.nil ?_ | with_reducible refine seqK.go ?_ | refine WC.block ?_ | refine WC.skip ?_ | refine WC.exit ?_ | refine WC.ret ?_
    | with_reducible refine seqK.exit ?_ | with_reducible refine seqK.ret ?_ | (with_reducible refine blockK.hit ?hb ?_; (case hb => rfl)) | (with_reducible refine blockK.miss ?hb ?_; (case hb => rfl)) | with_reducible refine blockK.normal ?_ | with_reducible refine blockK.ret ?_ | with_reducible refine loopK.exit ?_ | with_reducible refine loopK.ret ?_
    | refine WC.condT rfl ?_ | refine WC.condF rfl ?_
    | (refine WL.step rfl ?_; first | refine OP.decT (nw := true) rfl trivial (by first | omega | assumption) rfl rfl ?_ | refine OP.decF (nw := true) rfl trivial (by first | omega | assumption) rfl rfl ?_ | refine OP.decNT (nw := true) rfl trivial (by first | omega | assumption) rfl rfl ?_ | refine OP.decNF (nw := true) rfl trivial (by first | omega | assumption) rfl rfl ?_ | refine OP.pure (nw := true) rfl (by first | exact trivial | (simp only [Holds]; omega) | (simp [Holds]; done) | (simp [Holds]; omega)) rfl rfl ?_ | refine OP.pure (nw := false) rfl (by first | exact trivial | (simp only [Holds]; omega) | (simp [Holds]; done) | (simp [Holds]; omega)) rfl rfl ?_ | refine OP.pickT rfl rfl rfl rfl rfl ?_ | refine OP.pickF rfl rfl rfl rfl rfl ?_ | refine OP.loadN rfl rfl rfl rfl (by repeat (first | exact HasNth.here rfl | apply HasNth.there)) rfl rfl ?_ | refine OP.loadB rfl rfl rfl rfl rfl (by repeat (first | exact HasCut.here rfl | apply HasCut.there)) rfl rfl ?_ | refine OP.store rfl rfl rfl rfl rfl rfl rfl (by repeat (first | exact UpdM.here rfl | apply UpdM.there)) rfl ?_ | refine OP.buildT rfl rfl rfl rfl ?_ | refine OP.capS rfl rfl rfl rfl rfl rfl ?_)
    | (refine WL.guardT rfl rfl rfl rfl ?_; first | refine OP.decT (nw := true) rfl trivial (by first | omega | assumption) rfl rfl ?_ | refine OP.decF (nw := true) rfl trivial (by first | omega | assumption) rfl rfl ?_ | refine OP.decNT (nw := true) rfl trivial (by first | omega | assumption) rfl rfl ?_ | refine OP.decNF (nw := true) rfl trivial (by first | omega | assumption) rfl rfl ?_ | refine OP.pickT rfl rfl rfl rfl rfl ?_ | refine OP.pickF rfl rfl rfl rfl rfl ?_ | refine OP.pure (nw := true) rfl (by first | exact trivial | (simp only [Holds]; omega) | (simp [Holds]; done) | (simp [Holds]; omega)) rfl rfl ?_ | refine OP.pure (nw := false) rfl trivial rfl rfl ?_ | refine OP.loadN rfl rfl rfl rfl (by repeat (first | exact HasNth.here rfl | apply HasNth.there)) rfl rfl ?_ | refine OP.loadB rfl rfl rfl rfl rfl (by repeat (first | exact HasCut.here rfl | apply HasCut.there)) rfl rfl ?_ | refine OP.buildT rfl rfl rfl rfl ?_)
    | refine WL.guardF rfl rfl rfl rfl rfl rfl ?_ | refine WL.guardU rfl rfl rfl rfl rfl rfl ?_ | refine WL.guarded (nw := true) rfl rfl rfl rfl rfl rfl rfl (by first | exact trivial | (simp only [Holds]; omega) | (simp [Holds]; done) | (simp [Holds]; omega)) ?_)
  repeat (first
    | refine WC.seq ?_ | refine WC.region ?_ | refine WL.nil ?_ | with_reducible refine seqK.go ?_ | refine WC.block ?_ | refine WC.skip ?_ | refine WC.exit ?_ | refine WC.ret ?_
    | with_reducible refine seqK.exit ?_ | with_reducible refine seqK.ret ?_ | (with_reducible refine blockK.hit ?hb ?_; (case hb => rfl)) | (with_reducible refine blockK.miss ?hb ?_; (case hb => rfl)) | with_reducible refine blockK.normal ?_ | with_reducible refine blockK.ret ?_ | with_reducible refine loopK.exit ?_ | with_reducible refine loopK.ret ?_
    | refine WC.condT rfl ?_ | refine WC.condF rfl ?_
    | (refine WL.step rfl ?_; first | refine OP.decT (nw := true) rfl trivial (by first | omega | assumption) rfl rfl ?_ | refine OP.decF (nw := true) rfl trivial (by first | omega | assumption) rfl rfl ?_ | refine OP.decNT (nw := true) rfl trivial (by first | omega | assumption) rfl rfl ?_ | refine OP.decNF (nw := true) rfl trivial (by first | omega | assumption) rfl rfl ?_ | refine OP.pure (nw := true) rfl (by first | exact trivial | (simp only [Holds]; omega) | (simp [Holds]; done) | (simp [Holds]; omega)) rfl rfl ?_ | refine OP.pure (nw := false) rfl (by first | exact trivial | (simp only [Holds]; omega) | (simp [Holds]; done) | (simp [Holds]; omega)) rfl rfl ?_ | refine OP.pickT rfl rfl rfl rfl rfl ?_ | refine OP.pickF rfl rfl rfl rfl rfl ?_ | refine OP.loadN rfl rfl rfl rfl (by repeat (first | exact HasNth.here rfl | apply HasNth.there)) rfl rfl ?_ | refine OP.loadB rfl rfl rfl rfl rfl (by repeat (first | exact HasCut.here rfl | apply HasCut.there)) rfl rfl ?_ | refine OP.store rfl rfl rfl rfl rfl rfl rfl (by repeat (first | exact UpdM.here rfl | apply UpdM.there)) rfl ?_ | refine OP.buildT rfl rfl rfl rfl ?_ | refine OP.capS rfl rfl rfl rfl rfl rfl ?_)
    | (refine WL.guardT rfl rfl rfl rfl ?_; first | refine OP.decT (nw := true) rfl trivial (by first | omega | assumption) rfl rfl ?_ | refine OP.decF (nw := true) rfl trivial (by first | omega | assumption) rfl rfl ?_ | refine OP.decNT (nw := true) rfl trivial (by first | omega | assumption) rfl rfl ?_ | refine OP.decNF (nw := true) rfl trivial (by first | omega | assumption) rfl rfl ?_ | refine OP.pickT rfl rfl rfl rfl rfl ?_ | refine OP.pickF rfl rfl rfl rfl rfl ?_ | refine OP.pure (nw := true) rfl (by first | exact trivial | (simp only [Holds]; omega) | (simp [Holds]; done) | (simp [Holds]; omega)) rfl rfl ?_ | refine OP.pure (nw := false) rfl trivial rfl rfl ?_ | refine OP.loadN rfl rfl rfl rfl (by repeat (first | exact HasNth.here rfl | apply HasNth.there)) rfl rfl ?_ | refine OP.loadB rfl rfl rfl rfl rfl (by repeat (first | exact HasCut.here rfl | apply HasCut.there)) rfl rfl ?_ | refine OP.buildT rfl rfl rfl rfl ?_)
    | refine WL.guardF rfl rfl rfl rfl rfl rfl ?_ | refine WL.guardU rfl rfl rfl rfl rfl rfl ?_ | refine WL.guarded (nw := true) rfl rfl rfl rfl rfl rfl rfl (by first | exact trivial | (simp only [Holds]; omega) | (simp [Holds]; done) | (simp [Holds]; omega)) ?_)
  exact hh.h) : P := s ⟨h⟩
theorem NW {P : Prop} {Q : Nat → Prop} (h : ∀ b, Q b) (s : Hd (∀ b, Q b) → P := by
  intro hh
  refine WL.step rfl ?_
  first | exact OP.alloc rfl rfl rfl rfl rfl hh.h | exact OP.box rfl rfl rfl rfl rfl hh.h | exact OP.sliceLit rfl rfl rfl rfl rfl rfl rfl rfl hh.h) : P := s ⟨h⟩
section
variable {G : Ctx} {N : Nat} {env : Env} {L S : List Assn} {k : Kont} {n : Nat} {fuel : Nat} {listed : Array Bool} {l : List Oper} {o : Oper} {hd : Bool}
def VW (_ : Nat) (Q P : Prop) : Prop := Hd Q → P
theorem VW.q {i d : Nat} {v : Value} (hi : l.toArray[i]? = some o) (hg : o.guard = none) (hs : Region.noSelect l.toArray = true) (hf : Region.free .any l.toArray listed i = true) (hr : (Region.ready .any l.toArray listed).contains i = true)
    (hk : ∀ c env L, ¬ k (.panic c) env L) (hin : Nat.blt i n = true) (hq : Quiet G N env S o v) (hdst : o.dst = some d) (hN : Nat.blt d N = true) :
    VW i (WH G N l.toArray n S true fuel (listed.setIfInBounds i true) ((d, .val v) :: env) L k) (WH G N l.toArray n S true (fuel + 1) listed env L k) := fun h => WH.q i hi hg hs hf hr hk hin hq hdst hN h.h
theorem VW.gT {i j jt d : Nat} {want : Bool} {oj : Oper} {v : Value} (hi : l.toArray[i]? = some o) (hg : o.guard = some (j, want)) (hj : l.toArray[j]? = some oj) (hjt : oj.dst = some jt) (hw : gdOf env jt want = some true)
    (hs : Region.noSelect l.toArray = true) (hf : Region.free .any l.toArray listed i = true) (hr : (Region.ready .any l.toArray listed).contains i = true)
    (hk : ∀ c env L, ¬ k (.panic c) env L) (hin : Nat.blt i n = true) (hq : Quiet G N env S o v) (hdst : o.dst = some d) (hN : Nat.blt d N = true) :
    VW i (WH G N l.toArray n S true fuel (listed.setIfInBounds i true) ((d, .val v) :: env) L k) (WH G N l.toArray n S true (fuel + 1) listed env L k) := fun h => WH.gT i hi hg hj hjt hw hs hf hr hk hin hq hdst hN h.h
theorem VW.gF {i j jt d : Nat} {want : Bool} {oj : Oper} (hi : l.toArray[i]? = some o) (hg : o.guard = some (j, want)) (hj : l.toArray[j]? = some oj) (hjt : oj.dst = some jt) (hw : gdNo env jt want = true)
    (hs : Region.noSelect l.toArray = true) (hf : Region.free .any l.toArray listed i = true) (hr : (Region.ready .any l.toArray listed).contains i = true)
    (hk : ∀ c env L, ¬ k (.panic c) env L) (hin : Nat.blt i n = true) (hdst : o.dst = some d) (hN : Nat.blt d N = true) :
    VW i (WH G N l.toArray n S true fuel (listed.setIfInBounds i true) ((d, .val undef) :: env) L k) (WH G N l.toArray n S true (fuel + 1) listed env L k) := fun h => WH.gF i hi hg hj hjt hw hs hf hr hk hin hdst hN h.h
theorem VW.pure {i d : Nat} {nw : Bool} {c : Option Prop} {v : Value} (hi : l.toArray[i]? = some o) (hg : o.guard = none) (hs : Region.noSelect l.toArray = true) (hf : Region.free .any l.toArray listed i = true) (hr : (Region.ready .any l.toArray listed).contains i = true)
    (hk : ∀ c env L, ¬ k (.panic c) env L) (hH : (hd || Nat.ble n i) = true) (he : ev G.T nw none env o.op = some (c, v)) (hc : Holds c) (hdst : o.dst = some d) (hN : Nat.blt d N = true) :
    VW i (WH G N l.toArray n S hd fuel (listed.setIfInBounds i true) ((d, .val v) :: env) L k) (WH G N l.toArray n S hd (fuel + 1) listed env L k) := fun h => WH.pure i hi hg hs hf hr hk hH he hc hdst hN h.h

theorem VV (i : Nat) {P Q : Prop} (h : Q) (s : VW i Q P := by first | exact VW.q rfl rfl (by kernel_rfl) (by kernel_rfl) (by kernel_rfl) (fun _ _ _ h => h) rfl (Quiet.pickT rfl rfl rfl) rfl rfl | exact VW.q rfl rfl (by kernel_rfl) (by kernel_rfl) (by kernel_rfl) (fun _ _ _ h => h) rfl (Quiet.pickF rfl rfl rfl) rfl rfl | exact VW.q rfl rfl (by kernel_rfl) (by kernel_rfl) (by kernel_rfl) (fun _ _ _ h => h) rfl (Quiet.pure (nw := true) rfl (by first | exact trivial | (simp only [Holds]; omega) | (simp [Holds]; done) | (simp [Holds]; omega))) rfl rfl | exact VW.q rfl rfl (by kernel_rfl) (by kernel_rfl) (by kernel_rfl) (fun _ _ _ h => h) rfl (Quiet.pure (nw := false) rfl (by first | exact trivial | (simp only [Holds]; omega) | (simp [Holds]; done) | (simp [Holds]; omega))) rfl rfl | exact VW.q rfl rfl (by kernel_rfl) (by kernel_rfl) (by kernel_rfl) (fun _ _ _ h => h) rfl (Quiet.load rfl rfl rfl (.inl ⟨rfl, HasNth.ent (by repeat (first | exact HasNth.here rfl | apply HasNth.there))⟩)) rfl rfl | exact VW.q rfl rfl (by kernel_rfl) (by kernel_rfl) (by kernel_rfl) (fun _ _ _ h => h) rfl (Quiet.load rfl rfl rfl (loads_cut rfl rfl (by repeat (first | exact HasCut.here rfl | apply HasCut.there)))) rfl rfl | exact VW.gT rfl rfl rfl rfl rfl (by kernel_rfl) (by kernel_rfl) (by kernel_rfl) (fun _ _ _ h => h) rfl (Quiet.pickT rfl rfl rfl) rfl rfl | exact VW.gT rfl rfl rfl rfl rfl (by kernel_rfl) (by kernel_rfl) (by kernel_rfl) (fun _ _ _ h => h) rfl (Quiet.pickF rfl rfl rfl) rfl rfl | exact VW.gT rfl rfl rfl rfl rfl (by kernel_rfl) (by kernel_rfl) (by kernel_rfl) (fun _ _ _ h => h) rfl (Quiet.pure (nw := true) rfl (by first | exact trivial | (simp only [Holds]; omega) | (simp [Holds]; done) | (simp [Holds]; omega))) rfl rfl | exact VW.gT rfl rfl rfl rfl rfl (by kernel_rfl) (by kernel_rfl) (by kernel_rfl) (fun _ _ _ h => h) rfl (Quiet.pure (nw := false) rfl (by first | exact trivial | (simp only [Holds]; omega) | (simp [Holds]; done) | (simp [Holds]; omega))) rfl rfl | exact VW.gT rfl rfl rfl rfl rfl (by kernel_rfl) (by kernel_rfl) (by kernel_rfl) (fun _ _ _ h => h) rfl (Quiet.load rfl rfl rfl (.inl ⟨rfl, HasNth.ent (by repeat (first | exact HasNth.here rfl | apply HasNth.there))⟩)) rfl rfl | exact VW.gT rfl rfl rfl rfl rfl (by kernel_rfl) (by kernel_rfl) (by kernel_rfl) (fun _ _ _ h => h) rfl (Quiet.load rfl rfl rfl (loads_cut rfl rfl (by repeat (first | exact HasCut.here rfl | apply HasCut.there)))) rfl rfl | exact VW.gF rfl rfl rfl rfl rfl (by kernel_rfl) (by kernel_rfl) (by kernel_rfl) (fun _ _ _ h => h) rfl rfl rfl) : P := s ⟨h⟩
theorem VF (i : Nat) {P Q : Prop} (h : Q) (s : VW i Q P := by exact VW.gF rfl rfl rfl rfl rfl (by kernel_rfl) (by kernel_rfl) (by kernel_rfl) (fun _ _ _ h => h) rfl rfl rfl) : P := s ⟨h⟩
theorem WW (i : Nat) {P Q : Prop} (h : Q) (s : VW i Q P := by first | exact VW.pure (nw := true) rfl rfl (by kernel_rfl) (by kernel_rfl) (by kernel_rfl) (fun _ _ _ h => h) rfl rfl (by first | exact trivial | (simp only [Holds]; omega) | (simp [Holds]; done) | (simp [Holds]; omega)) rfl rfl | exact VW.pure (nw := false) rfl rfl (by kernel_rfl) (by kernel_rfl) (by kernel_rfl) (fun _ _ _ h => h) rfl rfl (by first | exact trivial | (simp only [Holds]; omega) | (simp [Holds]; done) | (simp [Holds]; omega)) rfl rfl | exact VW.q rfl rfl (by kernel_rfl) (by kernel_rfl) (by kernel_rfl) (fun _ _ _ h => h) rfl (Quiet.load rfl rfl rfl (.inl ⟨rfl, HasNth.ent (by repeat (first | exact HasNth.here rfl | apply HasNth.there))⟩)) rfl rfl | exact VW.q rfl rfl (by kernel_rfl) (by kernel_rfl) (by kernel_rfl) (fun _ _ _ h => h) rfl (Quiet.load rfl rfl rfl (loads_cut rfl rfl (by repeat (first | exact HasCut.here rfl | apply HasCut.there)))) rfl rfl) : P := s ⟨h⟩
theorem VQ (i : Nat) {d : Nat} {v : Value} (hi : l.toArray[i]? = some o) (hq : Quiet G N env S o v) (h : WH G N l.toArray n S true fuel (listed.setIfInBounds i true) ((d, .val v) :: env) L k)
    (hg : o.guard = none := by rfl) (hs : Region.noSelect l.toArray = true := by kernel_rfl) (hf : Region.free .any l.toArray listed i = true := by kernel_rfl) (hr : (Region.ready .any l.toArray listed).contains i = true := by kernel_rfl)
    (hk : ∀ c env L, ¬ k (.panic c) env L := by exact (fun _ _ _ h => h)) (hin : Nat.blt i n = true := by rfl) (hdst : o.dst = some d := by rfl) (hN : Nat.blt d N = true := by rfl) : WH G N l.toArray n S true (fuel + 1) listed env L k := WH.q i hi hg hs hf hr hk hin hq hdst hN h
theorem VG (i : Nat) {j jt d : Nat} {want : Bool} {oj : Oper} {v : Value} (hi : l.toArray[i]? = some o) (hq : Quiet G N env S o v) (h : WH G N l.toArray n S true fuel (listed.setIfInBounds i true) ((d, .val v) :: env) L k)
    (hg : o.guard = some (j, want) := by rfl) (hj : l.toArray[j]? = some oj := by rfl) (hjt : oj.dst = some jt := by rfl) (hw : gdOf env jt want = some true := by rfl)
    (hs : Region.noSelect l.toArray = true := by kernel_rfl) (hf : Region.free .any l.toArray listed i = true := by kernel_rfl) (hr : (Region.ready .any l.toArray listed).contains i = true := by kernel_rfl)
    (hk : ∀ c env L, ¬ k (.panic c) env L := by exact (fun _ _ _ h => h)) (hin : Nat.blt i n = true := by rfl) (hdst : o.dst = some d := by rfl) (hN : Nat.blt d N = true := by rfl) : WH G N l.toArray n S true (fuel + 1) listed env L k := WH.gT i hi hg hj hjt hw hs hf hr hk hin hq hdst hN h
theorem VL (i : Nat) (v : Value) {d : Nat} {t : TypeId} {x : Operand} {b off : Nat} {ti : TI} (hi : l.toArray[i]? = some o) (ho : o.op = .load t x) (hx : rd none env x = some (none, .pointer (some ⟨b, off, none⟩))) (hti : G.T.find t = some ti) (hv : Loads S ti b off v)
    (h : WH G N l.toArray n S true fuel (listed.setIfInBounds i true) ((d, .val v) :: env) L k)
    (hg : o.guard = none := by rfl) (hs : Region.noSelect l.toArray = true := by kernel_rfl) (hf : Region.free .any l.toArray listed i = true := by kernel_rfl) (hr : (Region.ready .any l.toArray listed).contains i = true := by kernel_rfl)
    (hk : ∀ c env L, ¬ k (.panic c) env L := by exact (fun _ _ _ h => h)) (hin : Nat.blt i n = true := by rfl) (hdst : o.dst = some d := by rfl) (hN : Nat.blt d N = true := by rfl) : WH G N l.toArray n S true (fuel + 1) listed env L k := WH.load i hi hg hs hf hr hk hin ho hx hti hv hdst hN h
theorem RD {id : Nat} (n m : Nat) (S : List Assn) (h : WH G N l.toArray n S true m (Array.replicate m false) env L k) (hm : l.length = m := by rfl) (ht : tailB l.toArray n = true := by kernel_rfl) (hS : Imp L S := by first | exact Imp.refl _ | exact (Imp.sub (by repeat (first | exact Picks.nil _ | apply Picks.cons | exact Pick.here _ _ | apply Pick.there)))) : WC G N (.region id l.toArray true) env L k := WC.regionD n m S hm ht hS h
theorem DN (h : k .normal env L) (hr : Region.ready .any l.toArray listed = [] := by kernel_rfl) : WH G N l.toArray n S hd fuel listed env L k := WH.done hr h
end
end Go.GL
/- The table of this seat's types, and that it is the program's. Written by gentab.py. -/
namespace Go.Proofs.YtkoakmaihcheaacDoor
open Go Go.GL
theorem ti0 : TIOk Tryd.prog 0 ⟨(@Go.TypeDesc.tuple #[]), 1, 0, [(@Go.Value.tuple #[])], false, Bool.false⟩ := ⟨Tryd.underlying0, by kernel_rfl, rfl, rfl, rfl⟩
theorem ti1 : TIOk Tryd.prog 1 ⟨(@Go.TypeDesc.func #[] #[] Bool.false), 1, 8, [Go.Value.nilFunc], false, Bool.false⟩ := ⟨Tryd.underlying1, by kernel_rfl, rfl, rfl, rfl⟩
theorem ti2 : TIOk Tryd.prog 2 ⟨(@Go.TypeDesc.int Go.IntKind.i64), 1, 8, [(@Go.Value.int Go.IntKind.i64 0)], false, Bool.true⟩ := ⟨Tryd.underlying2, by kernel_rfl, rfl, rfl, rfl⟩
theorem ti3 : TIOk Tryd.prog 3 ⟨(@Go.TypeDesc.int Go.IntKind.i64), 1, 8, [(@Go.Value.int Go.IntKind.i64 0)], false, Bool.true⟩ := ⟨Tryd.underlying3, by kernel_rfl, rfl, rfl, rfl⟩
theorem ti4 : TIOk Tryd.prog 4 ⟨Go.TypeDesc.bool, 1, 1, [(@Go.Value.bool Bool.false)], false, Bool.true⟩ := ⟨Tryd.underlying4, by kernel_rfl, rfl, rfl, rfl⟩
theorem ti5 : TIOk Tryd.prog 5 ⟨(@Go.TypeDesc.int Go.IntKind.u8), 1, 1, [(@Go.Value.int Go.IntKind.u8 0)], false, Bool.true⟩ := ⟨Tryd.underlying5, by kernel_rfl, rfl, rfl, rfl⟩
theorem ti6 : TIOk Tryd.prog 6 ⟨(@Go.TypeDesc.int Go.IntKind.u8), 1, 1, [(@Go.Value.int Go.IntKind.u8 0)], false, Bool.true⟩ := ⟨Tryd.underlying6, by kernel_rfl, rfl, rfl, rfl⟩
theorem ti7 : TIOk Tryd.prog 7 ⟨(@Go.TypeDesc.struct #[(@Go.Field.mk "x" 2 0 Bool.false "" "runtime" 0), (@Go.Field.mk "y" 3 1 Bool.false "" "runtime" 8), (@Go.Field.mk "signed" 4 2 Bool.false "" "runtime" 16), (@Go.Field.mk "code" 6 3 Bool.false "" "runtime" 17)]), 4, 24, [(@Go.Value.int Go.IntKind.i64 0), (@Go.Value.int Go.IntKind.i64 0), (@Go.Value.bool Bool.false), (@Go.Value.int Go.IntKind.u8 0)], true, Bool.true⟩ := ⟨Tryd.underlying7, by kernel_rfl, rfl, rfl, rfl⟩
theorem ti8 : TIOk Tryd.prog 8 ⟨(@Go.TypeDesc.struct #[(@Go.Field.mk "x" 2 0 Bool.false "" "runtime" 0), (@Go.Field.mk "y" 3 1 Bool.false "" "runtime" 8), (@Go.Field.mk "signed" 4 2 Bool.false "" "runtime" 16), (@Go.Field.mk "code" 6 3 Bool.false "" "runtime" 17)]), 4, 24, [(@Go.Value.int Go.IntKind.i64 0), (@Go.Value.int Go.IntKind.i64 0), (@Go.Value.bool Bool.false), (@Go.Value.int Go.IntKind.u8 0)], true, Bool.true⟩ := ⟨Tryd.underlying8, by kernel_rfl, rfl, rfl, rfl⟩
theorem ti9 : TIOk Tryd.prog 9 ⟨Go.TypeDesc.string, 1, 16, [(@Go.Value.string (@ByteArray.mk #[]))], false, Bool.true⟩ := ⟨Tryd.underlying9, by kernel_rfl, rfl, rfl, rfl⟩
theorem ti10 : TIOk Tryd.prog 10 ⟨Go.TypeDesc.string, 1, 16, [(@Go.Value.string (@ByteArray.mk #[]))], false, Bool.true⟩ := ⟨Tryd.underlying10, by kernel_rfl, rfl, rfl, rfl⟩
theorem ti11 : TIOk Tryd.prog 11 ⟨Go.TypeDesc.string, 1, 16, [(@Go.Value.string (@ByteArray.mk #[]))], false, Bool.true⟩ := ⟨Tryd.underlying11, by kernel_rfl, rfl, rfl, rfl⟩
theorem ti12 : TIOk Tryd.prog 12 ⟨(@Go.TypeDesc.int Go.IntKind.u64), 1, 8, [(@Go.Value.int Go.IntKind.u64 0)], false, Bool.true⟩ := ⟨Tryd.underlying12, by kernel_rfl, rfl, rfl, rfl⟩
theorem ti13 : TIOk Tryd.prog 13 ⟨(@Go.TypeDesc.struct #[(@Go.Field.mk "msg" 9 0 Bool.false "" "runtime" 0), (@Go.Field.mk "addr" 12 1 Bool.false "" "runtime" 16)]), 2, 24, [(@Go.Value.string (@ByteArray.mk #[])), (@Go.Value.int Go.IntKind.u64 0)], true, Bool.true⟩ := ⟨Tryd.underlying13, by kernel_rfl, rfl, rfl, rfl⟩
theorem ti14 : TIOk Tryd.prog 14 ⟨(@Go.TypeDesc.struct #[(@Go.Field.mk "msg" 9 0 Bool.false "" "runtime" 0), (@Go.Field.mk "addr" 12 1 Bool.false "" "runtime" 16)]), 2, 24, [(@Go.Value.string (@ByteArray.mk #[])), (@Go.Value.int Go.IntKind.u64 0)], true, Bool.true⟩ := ⟨Tryd.underlying14, by kernel_rfl, rfl, rfl, rfl⟩
theorem ti15 : TIOk Tryd.prog 15 ⟨(@Go.TypeDesc.pointer 162), 1, 8, [(@Go.Value.pointer none)], false, Bool.true⟩ := ⟨Tryd.underlying15, by kernel_rfl, rfl, rfl, rfl⟩
theorem ti16 : TIOk Tryd.prog 16 ⟨(@Go.TypeDesc.pointer 165), 1, 8, [(@Go.Value.pointer none)], false, Bool.true⟩ := ⟨Tryd.underlying16, by kernel_rfl, rfl, rfl, rfl⟩
theorem ti17 : TIOk Tryd.prog 17 ⟨(@Go.TypeDesc.pointer 172), 1, 8, [(@Go.Value.pointer none)], false, Bool.true⟩ := ⟨Tryd.underlying17, by kernel_rfl, rfl, rfl, rfl⟩
theorem ti18 : TIOk Tryd.prog 18 ⟨(@Go.TypeDesc.struct #[(@Go.Field.mk "typ" 17 0 Bool.false "" "internal/runtime/maps" 0)]), 1, 8, [(@Go.Value.pointer none)], true, Bool.true⟩ := ⟨Tryd.underlying18, by kernel_rfl, rfl, rfl, rfl⟩
theorem ti19 : TIOk Tryd.prog 19 ⟨(@Go.TypeDesc.struct #[(@Go.Field.mk "typ" 17 0 Bool.false "" "internal/runtime/maps" 0)]), 1, 8, [(@Go.Value.pointer none)], true, Bool.true⟩ := ⟨Tryd.underlying19, by kernel_rfl, rfl, rfl, rfl⟩
theorem ti20 : TIOk Tryd.prog 20 ⟨(@Go.TypeDesc.interface #[]), 1, 16, [Go.Value.nilIface], false, Bool.true⟩ := ⟨Tryd.underlying20, by kernel_rfl, rfl, rfl, rfl⟩
theorem ti21 : TIOk Tryd.prog 21 ⟨(@Go.TypeDesc.int Go.IntKind.i32), 1, 4, [(@Go.Value.int Go.IntKind.i32 0)], false, Bool.true⟩ := ⟨Tryd.underlying21, by kernel_rfl, rfl, rfl, rfl⟩
theorem ti22 : TIOk Tryd.prog 22 ⟨(@Go.TypeDesc.int Go.IntKind.u64), 1, 8, [(@Go.Value.int Go.IntKind.u64 0)], false, Bool.true⟩ := ⟨Tryd.underlying22, by kernel_rfl, rfl, rfl, rfl⟩
theorem ti23 : TIOk Tryd.prog 23 ⟨(@Go.TypeDesc.struct #[(@Go.Field.mk "Kind" 3 0 Bool.false "" "" 0), (@Go.Field.mk "V" 3 1 Bool.false "" "" 8), (@Go.Field.mk "I" 3 2 Bool.false "" "" 16), (@Go.Field.mk "Block" 3 3 Bool.false "" "" 24), (@Go.Field.mk "N" 3 4 Bool.false "" "" 32), (@Go.Field.mk "Data" 9 5 Bool.false "" "" 40), (@Go.Field.mk "Keep" 22 6 Bool.false "" "" 56)]), 7, 64, [(@Go.Value.int Go.IntKind.i64 0), (@Go.Value.int Go.IntKind.i64 0), (@Go.Value.int Go.IntKind.i64 0), (@Go.Value.int Go.IntKind.i64 0), (@Go.Value.int Go.IntKind.i64 0), (@Go.Value.string (@ByteArray.mk #[])), (@Go.Value.int Go.IntKind.u64 0)], true, Bool.true⟩ := ⟨Tryd.underlying23, by kernel_rfl, rfl, rfl, rfl⟩
theorem ti24 : TIOk Tryd.prog 24 ⟨(@Go.TypeDesc.struct #[(@Go.Field.mk "Kind" 3 0 Bool.false "" "" 0), (@Go.Field.mk "V" 3 1 Bool.false "" "" 8), (@Go.Field.mk "I" 3 2 Bool.false "" "" 16), (@Go.Field.mk "Block" 3 3 Bool.false "" "" 24), (@Go.Field.mk "N" 3 4 Bool.false "" "" 32), (@Go.Field.mk "Data" 9 5 Bool.false "" "" 40), (@Go.Field.mk "Keep" 22 6 Bool.false "" "" 56)]), 7, 64, [(@Go.Value.int Go.IntKind.i64 0), (@Go.Value.int Go.IntKind.i64 0), (@Go.Value.int Go.IntKind.i64 0), (@Go.Value.int Go.IntKind.i64 0), (@Go.Value.int Go.IntKind.i64 0), (@Go.Value.string (@ByteArray.mk #[])), (@Go.Value.int Go.IntKind.u64 0)], true, Bool.true⟩ := ⟨Tryd.underlying24, by kernel_rfl, rfl, rfl, rfl⟩
theorem ti25 : TIOk Tryd.prog 25 ⟨(@Go.TypeDesc.slice 34), 1, 24, [(@Go.Value.slice none 0 0)], false, Bool.false⟩ := ⟨Tryd.underlying25, by kernel_rfl, rfl, rfl, rfl⟩
theorem ti26 : TIOk Tryd.prog 26 ⟨(@Go.TypeDesc.struct #[(@Go.Field.mk "Code" 3 0 Bool.false "" "" 0), (@Go.Field.mk "Seq" 3 1 Bool.false "" "" 8), (@Go.Field.mk "Data" 9 2 Bool.false "" "" 16), (@Go.Field.mk "Done" 25 3 Bool.false "" "" 32)]), 4, 56, [(@Go.Value.int Go.IntKind.i64 0), (@Go.Value.int Go.IntKind.i64 0), (@Go.Value.string (@ByteArray.mk #[])), (@Go.Value.slice none 0 0)], true, Bool.false⟩ := ⟨Tryd.underlying26, by kernel_rfl, rfl, rfl, rfl⟩
theorem ti27 : TIOk Tryd.prog 27 ⟨(@Go.TypeDesc.struct #[(@Go.Field.mk "Code" 3 0 Bool.false "" "" 0), (@Go.Field.mk "Seq" 3 1 Bool.false "" "" 8), (@Go.Field.mk "Data" 9 2 Bool.false "" "" 16), (@Go.Field.mk "Done" 25 3 Bool.false "" "" 32)]), 4, 56, [(@Go.Value.int Go.IntKind.i64 0), (@Go.Value.int Go.IntKind.i64 0), (@Go.Value.string (@ByteArray.mk #[])), (@Go.Value.slice none 0 0)], true, Bool.false⟩ := ⟨Tryd.underlying27, by kernel_rfl, rfl, rfl, rfl⟩
theorem ti28 : TIOk Tryd.prog 28 ⟨(@Go.TypeDesc.func #[] #[4] Bool.false), 1, 8, [Go.Value.nilFunc], false, Bool.false⟩ := ⟨Tryd.underlying28, by kernel_rfl, rfl, rfl, rfl⟩
theorem ti29 : TIOk Tryd.prog 29 ⟨(@Go.TypeDesc.int Go.IntKind.i64), 1, 8, [(@Go.Value.int Go.IntKind.i64 0)], false, Bool.true⟩ := ⟨Tryd.underlying29, by kernel_rfl, rfl, rfl, rfl⟩
theorem ti30 : TIOk Tryd.prog 30 ⟨(@Go.TypeDesc.slice 36), 1, 24, [(@Go.Value.slice none 0 0)], false, Bool.false⟩ := ⟨Tryd.underlying30, by kernel_rfl, rfl, rfl, rfl⟩
theorem ti31 : TIOk Tryd.prog 31 ⟨(@Go.TypeDesc.struct #[(@Go.Field.mk "Code" 29 0 Bool.false "" "" 0), (@Go.Field.mk "Seq" 3 1 Bool.false "" "" 8), (@Go.Field.mk "Data" 9 2 Bool.false "" "" 16), (@Go.Field.mk "Done" 30 3 Bool.false "" "" 32)]), 4, 56, [(@Go.Value.int Go.IntKind.i64 0), (@Go.Value.int Go.IntKind.i64 0), (@Go.Value.string (@ByteArray.mk #[])), (@Go.Value.slice none 0 0)], true, Bool.false⟩ := ⟨Tryd.underlying31, by kernel_rfl, rfl, rfl, rfl⟩
theorem ti32 : TIOk Tryd.prog 32 ⟨(@Go.TypeDesc.struct #[(@Go.Field.mk "Code" 29 0 Bool.false "" "" 0), (@Go.Field.mk "Seq" 3 1 Bool.false "" "" 8), (@Go.Field.mk "Data" 9 2 Bool.false "" "" 16), (@Go.Field.mk "Done" 30 3 Bool.false "" "" 32)]), 4, 56, [(@Go.Value.int Go.IntKind.i64 0), (@Go.Value.int Go.IntKind.i64 0), (@Go.Value.string (@ByteArray.mk #[])), (@Go.Value.slice none 0 0)], true, Bool.false⟩ := ⟨Tryd.underlying32, by kernel_rfl, rfl, rfl, rfl⟩
theorem ti33 : TIOk Tryd.prog 33 ⟨(@Go.TypeDesc.struct #[(@Go.Field.mk "Id" 3 0 Bool.false "" "" 0), (@Go.Field.mk "Seq" 3 1 Bool.false "" "" 8), (@Go.Field.mk "Code" 3 2 Bool.false "" "" 16)]), 3, 24, [(@Go.Value.int Go.IntKind.i64 0), (@Go.Value.int Go.IntKind.i64 0), (@Go.Value.int Go.IntKind.i64 0)], true, Bool.true⟩ := ⟨Tryd.underlying33, by kernel_rfl, rfl, rfl, rfl⟩
theorem ti34 : TIOk Tryd.prog 34 ⟨(@Go.TypeDesc.struct #[(@Go.Field.mk "Id" 3 0 Bool.false "" "" 0), (@Go.Field.mk "Seq" 3 1 Bool.false "" "" 8), (@Go.Field.mk "Code" 3 2 Bool.false "" "" 16)]), 3, 24, [(@Go.Value.int Go.IntKind.i64 0), (@Go.Value.int Go.IntKind.i64 0), (@Go.Value.int Go.IntKind.i64 0)], true, Bool.true⟩ := ⟨Tryd.underlying34, by kernel_rfl, rfl, rfl, rfl⟩
theorem ti35 : TIOk Tryd.prog 35 ⟨(@Go.TypeDesc.struct #[(@Go.Field.mk "Id" 3 0 Bool.false "" "" 0), (@Go.Field.mk "Seq" 3 1 Bool.false "" "" 8), (@Go.Field.mk "Code" 29 2 Bool.false "" "" 16)]), 3, 24, [(@Go.Value.int Go.IntKind.i64 0), (@Go.Value.int Go.IntKind.i64 0), (@Go.Value.int Go.IntKind.i64 0)], true, Bool.true⟩ := ⟨Tryd.underlying35, by kernel_rfl, rfl, rfl, rfl⟩
theorem ti36 : TIOk Tryd.prog 36 ⟨(@Go.TypeDesc.struct #[(@Go.Field.mk "Id" 3 0 Bool.false "" "" 0), (@Go.Field.mk "Seq" 3 1 Bool.false "" "" 8), (@Go.Field.mk "Code" 29 2 Bool.false "" "" 16)]), 3, 24, [(@Go.Value.int Go.IntKind.i64 0), (@Go.Value.int Go.IntKind.i64 0), (@Go.Value.int Go.IntKind.i64 0)], true, Bool.true⟩ := ⟨Tryd.underlying36, by kernel_rfl, rfl, rfl, rfl⟩
theorem ti37 : TIOk Tryd.prog 37 ⟨(@Go.TypeDesc.func #[38, 32] #[9] Bool.false), 1, 8, [Go.Value.nilFunc], false, Bool.false⟩ := ⟨Tryd.underlying37, by kernel_rfl, rfl, rfl, rfl⟩
theorem ti38 : TIOk Tryd.prog 38 ⟨(@Go.TypeDesc.struct #[(@Go.Field.mk "Kind" 3 0 Bool.false "" "" 0), (@Go.Field.mk "V" 3 1 Bool.false "" "" 8), (@Go.Field.mk "I" 3 2 Bool.false "" "" 16), (@Go.Field.mk "Block" 3 3 Bool.false "" "" 24), (@Go.Field.mk "N" 3 4 Bool.false "" "" 32), (@Go.Field.mk "Data" 9 5 Bool.false "" "" 40), (@Go.Field.mk "Keep" 22 6 Bool.false "" "" 56)]), 7, 64, [(@Go.Value.int Go.IntKind.i64 0), (@Go.Value.int Go.IntKind.i64 0), (@Go.Value.int Go.IntKind.i64 0), (@Go.Value.int Go.IntKind.i64 0), (@Go.Value.int Go.IntKind.i64 0), (@Go.Value.string (@ByteArray.mk #[])), (@Go.Value.int Go.IntKind.u64 0)], true, Bool.true⟩ := ⟨Tryd.underlying38, by kernel_rfl, rfl, rfl, rfl⟩
theorem ti39 : TIOk Tryd.prog 39 ⟨(@Go.TypeDesc.func #[24, 27] #[9] Bool.false), 1, 8, [Go.Value.nilFunc], false, Bool.false⟩ := ⟨Tryd.underlying39, by kernel_rfl, rfl, rfl, rfl⟩
theorem ti40 : TIOk Tryd.prog 40 ⟨(@Go.TypeDesc.func #[24, 27] #[4] Bool.false), 1, 8, [Go.Value.nilFunc], false, Bool.false⟩ := ⟨Tryd.underlying40, by kernel_rfl, rfl, rfl, rfl⟩
theorem ti41 : TIOk Tryd.prog 41 ⟨(@Go.TypeDesc.struct #[(@Go.Field.mk "Seq" 3 0 Bool.false "" "" 0), (@Go.Field.mk "Kind" 3 1 Bool.false "" "" 8), (@Go.Field.mk "Block" 3 2 Bool.false "" "" 16), (@Go.Field.mk "Data" 9 3 Bool.false "" "" 24), (@Go.Field.mk "Number" 3 4 Bool.false "" "" 40)]), 5, 48, [(@Go.Value.int Go.IntKind.i64 0), (@Go.Value.int Go.IntKind.i64 0), (@Go.Value.int Go.IntKind.i64 0), (@Go.Value.string (@ByteArray.mk #[])), (@Go.Value.int Go.IntKind.i64 0)], true, Bool.true⟩ := ⟨Tryd.underlying41, by kernel_rfl, rfl, rfl, rfl⟩
theorem ti42 : TIOk Tryd.prog 42 ⟨(@Go.TypeDesc.struct #[(@Go.Field.mk "Seq" 3 0 Bool.false "" "" 0), (@Go.Field.mk "Kind" 3 1 Bool.false "" "" 8), (@Go.Field.mk "Block" 3 2 Bool.false "" "" 16), (@Go.Field.mk "Data" 9 3 Bool.false "" "" 24), (@Go.Field.mk "Number" 3 4 Bool.false "" "" 40)]), 5, 48, [(@Go.Value.int Go.IntKind.i64 0), (@Go.Value.int Go.IntKind.i64 0), (@Go.Value.int Go.IntKind.i64 0), (@Go.Value.string (@ByteArray.mk #[])), (@Go.Value.int Go.IntKind.i64 0)], true, Bool.true⟩ := ⟨Tryd.underlying42, by kernel_rfl, rfl, rfl, rfl⟩
theorem ti43 : TIOk Tryd.prog 43 ⟨(@Go.TypeDesc.int Go.IntKind.u64), 1, 8, [(@Go.Value.int Go.IntKind.u64 0)], false, Bool.true⟩ := ⟨Tryd.underlying43, by kernel_rfl, rfl, rfl, rfl⟩
theorem ti44 : TIOk Tryd.prog 44 ⟨(@Go.TypeDesc.int Go.IntKind.u32), 1, 4, [(@Go.Value.int Go.IntKind.u32 0)], false, Bool.true⟩ := ⟨Tryd.underlying44, by kernel_rfl, rfl, rfl, rfl⟩
theorem ti45 : TIOk Tryd.prog 45 ⟨(@Go.TypeDesc.func #[42] #[4] Bool.false), 1, 8, [Go.Value.nilFunc], false, Bool.false⟩ := ⟨Tryd.underlying45, by kernel_rfl, rfl, rfl, rfl⟩
theorem ti46 : TIOk Tryd.prog 46 ⟨(@Go.TypeDesc.slice 5), 1, 24, [(@Go.Value.slice none 0 0)], false, Bool.false⟩ := ⟨Tryd.underlying46, by kernel_rfl, rfl, rfl, rfl⟩
theorem ti47 : TIOk Tryd.prog 47 ⟨(@Go.TypeDesc.interface #[("Error", 103)]), 1, 16, [Go.Value.nilIface], false, Bool.true⟩ := ⟨Tryd.underlying47, by kernel_rfl, rfl, rfl, rfl⟩
theorem ti48 : TIOk Tryd.prog 48 ⟨(@Go.TypeDesc.interface #[("Error", 103)]), 1, 16, [Go.Value.nilIface], false, Bool.true⟩ := ⟨Tryd.underlying48, by kernel_rfl, rfl, rfl, rfl⟩
theorem ti49 : TIOk Tryd.prog 49 ⟨(@Go.TypeDesc.tuple #[46, 48]), 1, 0, [(@Go.Value.tuple #[(@Go.Value.slice none 0 0), Go.Value.nilIface])], false, Bool.false⟩ := ⟨Tryd.underlying49, by kernel_rfl, rfl, rfl, rfl⟩
theorem ti50 : TIOk Tryd.prog 50 ⟨(@Go.TypeDesc.func #[3, 42] #[46, 48] Bool.false), 1, 8, [Go.Value.nilFunc], false, Bool.false⟩ := ⟨Tryd.underlying50, by kernel_rfl, rfl, rfl, rfl⟩
theorem ti51 : TIOk Tryd.prog 51 ⟨(@Go.TypeDesc.tuple #[3, 42, 48]), 1, 0, [(@Go.Value.tuple #[(@Go.Value.int Go.IntKind.i64 0), (@Go.Value.agg #[(@Go.Value.int Go.IntKind.i64 0), (@Go.Value.int Go.IntKind.i64 0), (@Go.Value.int Go.IntKind.i64 0), (@Go.Value.string (@ByteArray.mk #[])), (@Go.Value.int Go.IntKind.i64 0)]), Go.Value.nilIface])], false, Bool.false⟩ := ⟨Tryd.underlying51, by kernel_rfl, rfl, rfl, rfl⟩
theorem ti52 : TIOk Tryd.prog 52 ⟨(@Go.TypeDesc.func #[46] #[3, 42, 48] Bool.false), 1, 8, [Go.Value.nilFunc], false, Bool.false⟩ := ⟨Tryd.underlying52, by kernel_rfl, rfl, rfl, rfl⟩
theorem ti53 : TIOk Tryd.prog 53 ⟨(@Go.TypeDesc.func #[48] #[29] Bool.false), 1, 8, [Go.Value.nilFunc], false, Bool.false⟩ := ⟨Tryd.underlying53, by kernel_rfl, rfl, rfl, rfl⟩
theorem ti54 : TIOk Tryd.prog 54 ⟨(@Go.TypeDesc.func #[3, 42, 43, 44] #[4] Bool.false), 1, 8, [Go.Value.nilFunc], false, Bool.false⟩ := ⟨Tryd.underlying54, by kernel_rfl, rfl, rfl, rfl⟩
theorem ti55 : TIOk Tryd.prog 55 ⟨(@Go.TypeDesc.tuple #[3, 42, 3]), 1, 0, [(@Go.Value.tuple #[(@Go.Value.int Go.IntKind.i64 0), (@Go.Value.agg #[(@Go.Value.int Go.IntKind.i64 0), (@Go.Value.int Go.IntKind.i64 0), (@Go.Value.int Go.IntKind.i64 0), (@Go.Value.string (@ByteArray.mk #[])), (@Go.Value.int Go.IntKind.i64 0)]), (@Go.Value.int Go.IntKind.i64 0)])], false, Bool.false⟩ := ⟨Tryd.underlying55, by kernel_rfl, rfl, rfl, rfl⟩
theorem ti56 : TIOk Tryd.prog 56 ⟨(@Go.TypeDesc.func #[9] #[3, 42, 3] Bool.false), 1, 8, [Go.Value.nilFunc], false, Bool.false⟩ := ⟨Tryd.underlying56, by kernel_rfl, rfl, rfl, rfl⟩
theorem ti57 : TIOk Tryd.prog 57 ⟨(@Go.TypeDesc.tuple #[3, 4]), 1, 0, [(@Go.Value.tuple #[(@Go.Value.int Go.IntKind.i64 0), (@Go.Value.bool Bool.false)])], false, Bool.false⟩ := ⟨Tryd.underlying57, by kernel_rfl, rfl, rfl, rfl⟩
theorem ti58 : TIOk Tryd.prog 58 ⟨(@Go.TypeDesc.func #[48, 9] #[3, 4] Bool.false), 1, 8, [Go.Value.nilFunc], false, Bool.false⟩ := ⟨Tryd.underlying58, by kernel_rfl, rfl, rfl, rfl⟩
theorem ti59 : TIOk Tryd.prog 59 ⟨(@Go.TypeDesc.func #[9] #[4] Bool.false), 1, 8, [Go.Value.nilFunc], false, Bool.false⟩ := ⟨Tryd.underlying59, by kernel_rfl, rfl, rfl, rfl⟩
theorem ti60 : TIOk Tryd.prog 60 ⟨(@Go.TypeDesc.slice 38), 1, 24, [(@Go.Value.slice none 0 0)], false, Bool.false⟩ := ⟨Tryd.underlying60, by kernel_rfl, rfl, rfl, rfl⟩
theorem ti61 : TIOk Tryd.prog 61 ⟨(@Go.TypeDesc.func #[46] #[60] Bool.false), 1, 8, [Go.Value.nilFunc], false, Bool.false⟩ := ⟨Tryd.underlying61, by kernel_rfl, rfl, rfl, rfl⟩
theorem ti62 : TIOk Tryd.prog 62 ⟨(@Go.TypeDesc.func #[9, 96] #[9] Bool.true), 1, 8, [Go.Value.nilFunc], false, Bool.false⟩ := ⟨Tryd.underlying62, by kernel_rfl, rfl, rfl, rfl⟩
theorem ti63 : TIOk Tryd.prog 63 ⟨(@Go.TypeDesc.slice 9), 1, 24, [(@Go.Value.slice none 0 0)], false, Bool.false⟩ := ⟨Tryd.underlying63, by kernel_rfl, rfl, rfl, rfl⟩
theorem ti64 : TIOk Tryd.prog 64 ⟨(@Go.TypeDesc.func #[63, 9] #[9] Bool.false), 1, 8, [Go.Value.nilFunc], false, Bool.false⟩ := ⟨Tryd.underlying64, by kernel_rfl, rfl, rfl, rfl⟩
theorem ti65 : TIOk Tryd.prog 65 ⟨(@Go.TypeDesc.func #[3] #[9] Bool.false), 1, 8, [Go.Value.nilFunc], false, Bool.false⟩ := ⟨Tryd.underlying65, by kernel_rfl, rfl, rfl, rfl⟩
theorem ti66 : TIOk Tryd.prog 66 ⟨(@Go.TypeDesc.func #[3, 3] #[4] Bool.false), 1, 8, [Go.Value.nilFunc], false, Bool.false⟩ := ⟨Tryd.underlying66, by kernel_rfl, rfl, rfl, rfl⟩
theorem ti67 : TIOk Tryd.prog 67 ⟨(@Go.TypeDesc.func #[9, 3, 48] #[48] Bool.false), 1, 8, [Go.Value.nilFunc], false, Bool.false⟩ := ⟨Tryd.underlying67, by kernel_rfl, rfl, rfl, rfl⟩
theorem ti68 : TIOk Tryd.prog 68 ⟨(@Go.TypeDesc.func #[46, 3] #[46] Bool.false), 1, 8, [Go.Value.nilFunc], false, Bool.false⟩ := ⟨Tryd.underlying68, by kernel_rfl, rfl, rfl, rfl⟩
theorem ti69 : TIOk Tryd.prog 69 ⟨(@Go.TypeDesc.func #[46, 9] #[46] Bool.false), 1, 8, [Go.Value.nilFunc], false, Bool.false⟩ := ⟨Tryd.underlying69, by kernel_rfl, rfl, rfl, rfl⟩
theorem ti70 : TIOk Tryd.prog 70 ⟨(@Go.TypeDesc.tuple #[46, 4]), 1, 0, [(@Go.Value.tuple #[(@Go.Value.slice none 0 0), (@Go.Value.bool Bool.false)])], false, Bool.false⟩ := ⟨Tryd.underlying70, by kernel_rfl, rfl, rfl, rfl⟩
theorem ti71 : TIOk Tryd.prog 71 ⟨(@Go.TypeDesc.func #[46] #[46, 4] Bool.false), 1, 8, [Go.Value.nilFunc], false, Bool.false⟩ := ⟨Tryd.underlying71, by kernel_rfl, rfl, rfl, rfl⟩
theorem ti72 : TIOk Tryd.prog 72 ⟨(@Go.TypeDesc.pointer 107), 1, 8, [(@Go.Value.pointer none)], false, Bool.true⟩ := ⟨Tryd.underlying72, by kernel_rfl, rfl, rfl, rfl⟩
theorem ti73 : TIOk Tryd.prog 73 ⟨(@Go.TypeDesc.func #[46] #[72] Bool.false), 1, 8, [Go.Value.nilFunc], false, Bool.false⟩ := ⟨Tryd.underlying73, by kernel_rfl, rfl, rfl, rfl⟩
theorem ti74 : TIOk Tryd.prog 74 ⟨(@Go.TypeDesc.tuple #[3, 42]), 1, 0, [(@Go.Value.tuple #[(@Go.Value.int Go.IntKind.i64 0), (@Go.Value.agg #[(@Go.Value.int Go.IntKind.i64 0), (@Go.Value.int Go.IntKind.i64 0), (@Go.Value.int Go.IntKind.i64 0), (@Go.Value.string (@ByteArray.mk #[])), (@Go.Value.int Go.IntKind.i64 0)])])], false, Bool.false⟩ := ⟨Tryd.underlying74, by kernel_rfl, rfl, rfl, rfl⟩
theorem ti75 : TIOk Tryd.prog 75 ⟨(@Go.TypeDesc.func #[72] #[3, 42] Bool.false), 1, 8, [Go.Value.nilFunc], false, Bool.false⟩ := ⟨Tryd.underlying75, by kernel_rfl, rfl, rfl, rfl⟩
theorem ti76 : TIOk Tryd.prog 76 ⟨(@Go.TypeDesc.func #[] #[29] Bool.false), 1, 8, [Go.Value.nilFunc], false, Bool.false⟩ := ⟨Tryd.underlying76, by kernel_rfl, rfl, rfl, rfl⟩
theorem ti77 : TIOk Tryd.prog 77 ⟨(@Go.TypeDesc.func #[46, 46] #[4] Bool.false), 1, 8, [Go.Value.nilFunc], false, Bool.false⟩ := ⟨Tryd.underlying77, by kernel_rfl, rfl, rfl, rfl⟩
theorem ti78 : TIOk Tryd.prog 78 ⟨(@Go.TypeDesc.func #[48, 20] #[4] Bool.false), 1, 8, [Go.Value.nilFunc], false, Bool.false⟩ := ⟨Tryd.underlying78, by kernel_rfl, rfl, rfl, rfl⟩
theorem ti79 : TIOk Tryd.prog 79 ⟨(@Go.TypeDesc.pointer 29), 1, 8, [(@Go.Value.pointer none)], false, Bool.true⟩ := ⟨Tryd.underlying79, by kernel_rfl, rfl, rfl, rfl⟩
theorem ti80 : TIOk Tryd.prog 80 ⟨(@Go.TypeDesc.tuple #[9, 4]), 1, 0, [(@Go.Value.tuple #[(@Go.Value.string (@ByteArray.mk #[])), (@Go.Value.bool Bool.false)])], false, Bool.false⟩ := ⟨Tryd.underlying80, by kernel_rfl, rfl, rfl, rfl⟩
theorem ti81 : TIOk Tryd.prog 81 ⟨(@Go.TypeDesc.func #[9] #[9, 4] Bool.false), 1, 8, [Go.Value.nilFunc], false, Bool.false⟩ := ⟨Tryd.underlying81, by kernel_rfl, rfl, rfl, rfl⟩
theorem ti82 : TIOk Tryd.prog 82 ⟨(@Go.TypeDesc.pointer 84), 1, 8, [(@Go.Value.pointer none)], false, Bool.true⟩ := ⟨Tryd.underlying82, by kernel_rfl, rfl, rfl, rfl⟩
theorem ti83 : TIOk Tryd.prog 83 ⟨(@Go.TypeDesc.struct #[(@Go.Field.mk "B" 9 0 Bool.false "" "" 0), (@Go.Field.mk "E" 3 1 Bool.false "" "" 16)]), 2, 24, [(@Go.Value.string (@ByteArray.mk #[])), (@Go.Value.int Go.IntKind.i64 0)], true, Bool.true⟩ := ⟨Tryd.underlying83, by kernel_rfl, rfl, rfl, rfl⟩
theorem ti84 : TIOk Tryd.prog 84 ⟨(@Go.TypeDesc.struct #[(@Go.Field.mk "B" 9 0 Bool.false "" "" 0), (@Go.Field.mk "E" 3 1 Bool.false "" "" 16)]), 2, 24, [(@Go.Value.string (@ByteArray.mk #[])), (@Go.Value.int Go.IntKind.i64 0)], true, Bool.true⟩ := ⟨Tryd.underlying84, by kernel_rfl, rfl, rfl, rfl⟩
theorem ti85 : TIOk Tryd.prog 85 ⟨(@Go.TypeDesc.func #[] #[3] Bool.false), 1, 8, [Go.Value.nilFunc], false, Bool.false⟩ := ⟨Tryd.underlying85, by kernel_rfl, rfl, rfl, rfl⟩
theorem ti86 : TIOk Tryd.prog 86 ⟨(@Go.TypeDesc.func #[3, 42] #[9] Bool.false), 1, 8, [Go.Value.nilFunc], false, Bool.false⟩ := ⟨Tryd.underlying86, by kernel_rfl, rfl, rfl, rfl⟩
theorem ti87 : TIOk Tryd.prog 87 ⟨(@Go.TypeDesc.slice 89), 1, 24, [(@Go.Value.slice none 0 0)], false, Bool.false⟩ := ⟨Tryd.underlying87, by kernel_rfl, rfl, rfl, rfl⟩
theorem ti88 : TIOk Tryd.prog 88 ⟨(@Go.TypeDesc.func #[48] #[87] Bool.false), 1, 8, [Go.Value.nilFunc], false, Bool.false⟩ := ⟨Tryd.underlying88, by kernel_rfl, rfl, rfl, rfl⟩
theorem ti89 : TIOk Tryd.prog 89 ⟨(@Go.TypeDesc.pointer 91), 1, 8, [(@Go.Value.pointer none)], false, Bool.true⟩ := ⟨Tryd.underlying89, by kernel_rfl, rfl, rfl, rfl⟩
theorem ti90 : TIOk Tryd.prog 90 ⟨(@Go.TypeDesc.struct #[(@Go.Field.mk "Op" 9 0 Bool.false "" "" 0), (@Go.Field.mk "At" 3 1 Bool.false "" "" 16), (@Go.Field.mk "Err" 48 2 Bool.false "" "" 24)]), 3, 40, [(@Go.Value.string (@ByteArray.mk #[])), (@Go.Value.int Go.IntKind.i64 0), Go.Value.nilIface], true, Bool.true⟩ := ⟨Tryd.underlying90, by kernel_rfl, rfl, rfl, rfl⟩
theorem ti91 : TIOk Tryd.prog 91 ⟨(@Go.TypeDesc.struct #[(@Go.Field.mk "Op" 9 0 Bool.false "" "" 0), (@Go.Field.mk "At" 3 1 Bool.false "" "" 16), (@Go.Field.mk "Err" 48 2 Bool.false "" "" 24)]), 3, 40, [(@Go.Value.string (@ByteArray.mk #[])), (@Go.Value.int Go.IntKind.i64 0), Go.Value.nilIface], true, Bool.true⟩ := ⟨Tryd.underlying91, by kernel_rfl, rfl, rfl, rfl⟩
theorem ti92 : TIOk Tryd.prog 92 ⟨(@Go.TypeDesc.pointer 94), 1, 8, [(@Go.Value.pointer none)], false, Bool.true⟩ := ⟨Tryd.underlying92, by kernel_rfl, rfl, rfl, rfl⟩
theorem ti93 : TIOk Tryd.prog 93 ⟨(@Go.TypeDesc.struct #[(@Go.Field.mk "b" 46 0 Bool.false "" "isobar/script" 0), (@Go.Field.mk "over" 4 1 Bool.false "" "isobar/script" 24)]), 2, 32, [(@Go.Value.slice none 0 0), (@Go.Value.bool Bool.false)], true, Bool.false⟩ := ⟨Tryd.underlying93, by kernel_rfl, rfl, rfl, rfl⟩
theorem ti94 : TIOk Tryd.prog 94 ⟨(@Go.TypeDesc.struct #[(@Go.Field.mk "b" 46 0 Bool.false "" "isobar/script" 0), (@Go.Field.mk "over" 4 1 Bool.false "" "isobar/script" 24)]), 2, 32, [(@Go.Value.slice none 0 0), (@Go.Value.bool Bool.false)], true, Bool.false⟩ := ⟨Tryd.underlying94, by kernel_rfl, rfl, rfl, rfl⟩
theorem ti95 : TIOk Tryd.prog 95 ⟨(@Go.TypeDesc.func #[3, 3] #[38] Bool.false), 1, 8, [Go.Value.nilFunc], false, Bool.false⟩ := ⟨Tryd.underlying95, by kernel_rfl, rfl, rfl, rfl⟩
theorem ti96 : TIOk Tryd.prog 96 ⟨(@Go.TypeDesc.slice 3), 1, 24, [(@Go.Value.slice none 0 0)], false, Bool.false⟩ := ⟨Tryd.underlying96, by kernel_rfl, rfl, rfl, rfl⟩
theorem ti97 : TIOk Tryd.prog 97 ⟨(@Go.TypeDesc.pointer 99), 1, 8, [(@Go.Value.pointer none)], false, Bool.true⟩ := ⟨Tryd.underlying97, by kernel_rfl, rfl, rfl, rfl⟩
theorem ti98 : TIOk Tryd.prog 98 ⟨(@Go.TypeDesc.struct #[(@Go.Field.mk "addr" 97 0 Bool.false "" "strings" 0), (@Go.Field.mk "buf" 46 1 Bool.false "" "strings" 8)]), 2, 32, [(@Go.Value.pointer none), (@Go.Value.slice none 0 0)], true, Bool.false⟩ := ⟨Tryd.underlying98, by kernel_rfl, rfl, rfl, rfl⟩
theorem ti99 : TIOk Tryd.prog 99 ⟨(@Go.TypeDesc.struct #[(@Go.Field.mk "addr" 97 0 Bool.false "" "strings" 0), (@Go.Field.mk "buf" 46 1 Bool.false "" "strings" 8)]), 2, 32, [(@Go.Value.pointer none), (@Go.Value.slice none 0 0)], true, Bool.false⟩ := ⟨Tryd.underlying99, by kernel_rfl, rfl, rfl, rfl⟩
theorem ti100 : TIOk Tryd.prog 100 ⟨(@Go.TypeDesc.func #[3] #[] Bool.false), 1, 8, [Go.Value.nilFunc], false, Bool.false⟩ := ⟨Tryd.underlying100, by kernel_rfl, rfl, rfl, rfl⟩
theorem ti101 : TIOk Tryd.prog 101 ⟨(@Go.TypeDesc.tuple #[3, 48]), 1, 0, [(@Go.Value.tuple #[(@Go.Value.int Go.IntKind.i64 0), Go.Value.nilIface])], false, Bool.false⟩ := ⟨Tryd.underlying101, by kernel_rfl, rfl, rfl, rfl⟩
theorem ti102 : TIOk Tryd.prog 102 ⟨(@Go.TypeDesc.func #[9] #[3, 48] Bool.false), 1, 8, [Go.Value.nilFunc], false, Bool.false⟩ := ⟨Tryd.underlying102, by kernel_rfl, rfl, rfl, rfl⟩
theorem ti103 : TIOk Tryd.prog 103 ⟨(@Go.TypeDesc.func #[] #[9] Bool.false), 1, 8, [Go.Value.nilFunc], false, Bool.false⟩ := ⟨Tryd.underlying103, by kernel_rfl, rfl, rfl, rfl⟩
theorem ti104 : TIOk Tryd.prog 104 ⟨(@Go.TypeDesc.func #[46] #[46] Bool.false), 1, 8, [Go.Value.nilFunc], false, Bool.false⟩ := ⟨Tryd.underlying104, by kernel_rfl, rfl, rfl, rfl⟩
theorem ti105 : TIOk Tryd.prog 105 ⟨(@Go.TypeDesc.func #[124] #[46] Bool.true), 1, 8, [Go.Value.nilFunc], false, Bool.false⟩ := ⟨Tryd.underlying105, by kernel_rfl, rfl, rfl, rfl⟩
theorem ti106 : TIOk Tryd.prog 106 ⟨(@Go.TypeDesc.struct #[(@Go.Field.mk "b" 46 0 Bool.false "" "isobar/pack" 0), (@Go.Field.mk "err" 29 1 Bool.false "" "isobar/pack" 24)]), 2, 32, [(@Go.Value.slice none 0 0), (@Go.Value.int Go.IntKind.i64 0)], true, Bool.false⟩ := ⟨Tryd.underlying106, by kernel_rfl, rfl, rfl, rfl⟩
theorem ti107 : TIOk Tryd.prog 107 ⟨(@Go.TypeDesc.struct #[(@Go.Field.mk "b" 46 0 Bool.false "" "isobar/pack" 0), (@Go.Field.mk "err" 29 1 Bool.false "" "isobar/pack" 24)]), 2, 32, [(@Go.Value.slice none 0 0), (@Go.Value.int Go.IntKind.i64 0)], true, Bool.false⟩ := ⟨Tryd.underlying107, by kernel_rfl, rfl, rfl, rfl⟩
theorem ti108 : TIOk Tryd.prog 108 ⟨Go.TypeDesc.unsafePointer, 1, 8, [(@Go.Value.pointer none)], false, Bool.true⟩ := ⟨Tryd.underlying108, by kernel_rfl, rfl, rfl, rfl⟩
theorem ti109 : TIOk Tryd.prog 109 ⟨(@Go.TypeDesc.int Go.IntKind.u64), 1, 8, [(@Go.Value.int Go.IntKind.u64 0)], false, Bool.true⟩ := ⟨Tryd.underlying109, by kernel_rfl, rfl, rfl, rfl⟩
theorem ti110 : TIOk Tryd.prog 110 ⟨(@Go.TypeDesc.struct #[(@Go.Field.mk "typ_" 17 0 Bool.false "" "internal/reflectlite" 0), (@Go.Field.mk "ptr" 108 1 Bool.false "" "internal/reflectlite" 8), (@Go.Field.mk "flag" 109 2 Bool.true "" "internal/reflectlite" 16)]), 3, 24, [(@Go.Value.pointer none), (@Go.Value.pointer none), (@Go.Value.int Go.IntKind.u64 0)], true, Bool.true⟩ := ⟨Tryd.underlying110, by kernel_rfl, rfl, rfl, rfl⟩
theorem ti111 : TIOk Tryd.prog 111 ⟨(@Go.TypeDesc.struct #[(@Go.Field.mk "typ_" 17 0 Bool.false "" "internal/reflectlite" 0), (@Go.Field.mk "ptr" 108 1 Bool.false "" "internal/reflectlite" 8), (@Go.Field.mk "flag" 109 2 Bool.true "" "internal/reflectlite" 16)]), 3, 24, [(@Go.Value.pointer none), (@Go.Value.pointer none), (@Go.Value.int Go.IntKind.u64 0)], true, Bool.true⟩ := ⟨Tryd.underlying111, by kernel_rfl, rfl, rfl, rfl⟩
theorem ti112 : TIOk Tryd.prog 112 ⟨(@Go.TypeDesc.func #[20] #[111] Bool.false), 1, 8, [Go.Value.nilFunc], false, Bool.false⟩ := ⟨Tryd.underlying112, by kernel_rfl, rfl, rfl, rfl⟩
theorem ti113 : TIOk Tryd.prog 113 ⟨(@Go.TypeDesc.interface #[("AssignableTo", 118), ("Comparable", 28), ("Elem", 115), ("Implements", 118), ("Kind", 117), ("Name", 103), ("PkgPath", 103), ("Size", 173), ("String", 103), ("internal/reflectlite.common", 166), ("internal/reflectlite.uncommon", 174)]), 1, 16, [Go.Value.nilIface], false, Bool.true⟩ := ⟨Tryd.underlying113, by kernel_rfl, rfl, rfl, rfl⟩
theorem ti114 : TIOk Tryd.prog 114 ⟨(@Go.TypeDesc.interface #[("AssignableTo", 118), ("Comparable", 28), ("Elem", 115), ("Implements", 118), ("Kind", 117), ("Name", 103), ("PkgPath", 103), ("Size", 173), ("String", 103), ("internal/reflectlite.common", 166), ("internal/reflectlite.uncommon", 174)]), 1, 16, [Go.Value.nilIface], false, Bool.true⟩ := ⟨Tryd.underlying114, by kernel_rfl, rfl, rfl, rfl⟩
theorem ti115 : TIOk Tryd.prog 115 ⟨(@Go.TypeDesc.func #[] #[114] Bool.false), 1, 8, [Go.Value.nilFunc], false, Bool.false⟩ := ⟨Tryd.underlying115, by kernel_rfl, rfl, rfl, rfl⟩
theorem ti116 : TIOk Tryd.prog 116 ⟨(@Go.TypeDesc.int Go.IntKind.u8), 1, 1, [(@Go.Value.int Go.IntKind.u8 0)], false, Bool.true⟩ := ⟨Tryd.underlying116, by kernel_rfl, rfl, rfl, rfl⟩
theorem ti117 : TIOk Tryd.prog 117 ⟨(@Go.TypeDesc.func #[] #[116] Bool.false), 1, 8, [Go.Value.nilFunc], false, Bool.false⟩ := ⟨Tryd.underlying117, by kernel_rfl, rfl, rfl, rfl⟩
theorem ti118 : TIOk Tryd.prog 118 ⟨(@Go.TypeDesc.func #[114] #[4] Bool.false), 1, 8, [Go.Value.nilFunc], false, Bool.false⟩ := ⟨Tryd.underlying118, by kernel_rfl, rfl, rfl, rfl⟩
theorem ti119 : TIOk Tryd.prog 119 ⟨(@Go.TypeDesc.func #[48, 20, 111, 114] #[4] Bool.false), 1, 8, [Go.Value.nilFunc], false, Bool.false⟩ := ⟨Tryd.underlying119, by kernel_rfl, rfl, rfl, rfl⟩
theorem ti120 : TIOk Tryd.prog 120 ⟨(@Go.TypeDesc.func #[9] #[9] Bool.false), 1, 8, [Go.Value.nilFunc], false, Bool.false⟩ := ⟨Tryd.underlying120, by kernel_rfl, rfl, rfl, rfl⟩
theorem ti121 : TIOk Tryd.prog 121 ⟨(@Go.TypeDesc.pointer 89), 1, 8, [(@Go.Value.pointer none)], false, Bool.true⟩ := ⟨Tryd.underlying121, by kernel_rfl, rfl, rfl, rfl⟩
theorem ti122 : TIOk Tryd.prog 122 ⟨(@Go.TypeDesc.func #[] #[22] Bool.false), 1, 8, [Go.Value.nilFunc], false, Bool.false⟩ := ⟨Tryd.underlying122, by kernel_rfl, rfl, rfl, rfl⟩
theorem ti123 : TIOk Tryd.prog 123 ⟨(@Go.TypeDesc.pointer 5), 1, 8, [(@Go.Value.pointer none)], false, Bool.true⟩ := ⟨Tryd.underlying123, by kernel_rfl, rfl, rfl, rfl⟩
theorem ti124 : TIOk Tryd.prog 124 ⟨(@Go.TypeDesc.slice 46), 1, 24, [(@Go.Value.slice none 0 0)], false, Bool.false⟩ := ⟨Tryd.underlying124, by kernel_rfl, rfl, rfl, rfl⟩
theorem ti125 : TIOk Tryd.prog 125 ⟨(@Go.TypeDesc.func #[46] #[44] Bool.false), 1, 8, [Go.Value.nilFunc], false, Bool.false⟩ := ⟨Tryd.underlying125, by kernel_rfl, rfl, rfl, rfl⟩
theorem ti126 : TIOk Tryd.prog 126 ⟨(@Go.TypeDesc.func #[29] #[3] Bool.false), 1, 8, [Go.Value.nilFunc], false, Bool.false⟩ := ⟨Tryd.underlying126, by kernel_rfl, rfl, rfl, rfl⟩
theorem ti127 : TIOk Tryd.prog 127 ⟨(@Go.TypeDesc.struct #[(@Go.Field.mk "Type" 17 0 Bool.true "" "" 0)]), 1, 8, [(@Go.Value.pointer none)], true, Bool.true⟩ := ⟨Tryd.underlying127, by kernel_rfl, rfl, rfl, rfl⟩
theorem ti128 : TIOk Tryd.prog 128 ⟨(@Go.TypeDesc.struct #[(@Go.Field.mk "Type" 17 0 Bool.true "" "" 0)]), 1, 8, [(@Go.Value.pointer none)], true, Bool.true⟩ := ⟨Tryd.underlying128, by kernel_rfl, rfl, rfl, rfl⟩
theorem ti129 : TIOk Tryd.prog 129 ⟨(@Go.TypeDesc.pointer 176), 1, 8, [(@Go.Value.pointer none)], false, Bool.true⟩ := ⟨Tryd.underlying129, by kernel_rfl, rfl, rfl, rfl⟩
theorem ti130 : TIOk Tryd.prog 130 ⟨(@Go.TypeDesc.func #[20] #[114] Bool.false), 1, 8, [Go.Value.nilFunc], false, Bool.false⟩ := ⟨Tryd.underlying130, by kernel_rfl, rfl, rfl, rfl⟩
theorem ti131 : TIOk Tryd.prog 131 ⟨(@Go.TypeDesc.func #[] #[111] Bool.false), 1, 8, [Go.Value.nilFunc], false, Bool.false⟩ := ⟨Tryd.underlying131, by kernel_rfl, rfl, rfl, rfl⟩
theorem ti132 : TIOk Tryd.prog 132 ⟨(@Go.TypeDesc.func #[111] #[] Bool.false), 1, 8, [Go.Value.nilFunc], false, Bool.false⟩ := ⟨Tryd.underlying132, by kernel_rfl, rfl, rfl, rfl⟩
theorem ti133 : TIOk Tryd.prog 133 ⟨(@Go.TypeDesc.interface #[("As", 135)]), 1, 16, [Go.Value.nilIface], false, Bool.true⟩ := ⟨Tryd.underlying133, by kernel_rfl, rfl, rfl, rfl⟩
theorem ti134 : TIOk Tryd.prog 134 ⟨(@Go.TypeDesc.tuple #[133, 4]), 1, 0, [(@Go.Value.tuple #[Go.Value.nilIface, (@Go.Value.bool Bool.false)])], false, Bool.false⟩ := ⟨Tryd.underlying134, by kernel_rfl, rfl, rfl, rfl⟩
theorem ti135 : TIOk Tryd.prog 135 ⟨(@Go.TypeDesc.func #[20] #[4] Bool.false), 1, 8, [Go.Value.nilFunc], false, Bool.false⟩ := ⟨Tryd.underlying135, by kernel_rfl, rfl, rfl, rfl⟩
theorem ti136 : TIOk Tryd.prog 136 ⟨(@Go.TypeDesc.interface #[("Unwrap", 137)]), 1, 16, [Go.Value.nilIface], false, Bool.true⟩ := ⟨Tryd.underlying136, by kernel_rfl, rfl, rfl, rfl⟩
theorem ti137 : TIOk Tryd.prog 137 ⟨(@Go.TypeDesc.func #[] #[48] Bool.false), 1, 8, [Go.Value.nilFunc], false, Bool.false⟩ := ⟨Tryd.underlying137, by kernel_rfl, rfl, rfl, rfl⟩
theorem ti138 : TIOk Tryd.prog 138 ⟨(@Go.TypeDesc.interface #[("Unwrap", 140)]), 1, 16, [Go.Value.nilIface], false, Bool.true⟩ := ⟨Tryd.underlying138, by kernel_rfl, rfl, rfl, rfl⟩
theorem ti139 : TIOk Tryd.prog 139 ⟨(@Go.TypeDesc.slice 48), 1, 24, [(@Go.Value.slice none 0 0)], false, Bool.false⟩ := ⟨Tryd.underlying139, by kernel_rfl, rfl, rfl, rfl⟩
theorem ti140 : TIOk Tryd.prog 140 ⟨(@Go.TypeDesc.func #[] #[139] Bool.false), 1, 8, [Go.Value.nilFunc], false, Bool.false⟩ := ⟨Tryd.underlying140, by kernel_rfl, rfl, rfl, rfl⟩
theorem ti141 : TIOk Tryd.prog 141 ⟨(@Go.TypeDesc.func #[9] #[44] Bool.false), 1, 8, [Go.Value.nilFunc], false, Bool.false⟩ := ⟨Tryd.underlying141, by kernel_rfl, rfl, rfl, rfl⟩
theorem ti142 : TIOk Tryd.prog 142 ⟨(@Go.TypeDesc.func #[2, 3] #[9] Bool.false), 1, 8, [Go.Value.nilFunc], false, Bool.false⟩ := ⟨Tryd.underlying142, by kernel_rfl, rfl, rfl, rfl⟩
theorem ti143 : TIOk Tryd.prog 143 ⟨(@Go.TypeDesc.func #[108] #[108] Bool.false), 1, 8, [Go.Value.nilFunc], false, Bool.false⟩ := ⟨Tryd.underlying143, by kernel_rfl, rfl, rfl, rfl⟩
theorem ti144 : TIOk Tryd.prog 144 ⟨(@Go.TypeDesc.func #[3] #[46] Bool.false), 1, 8, [Go.Value.nilFunc], false, Bool.false⟩ := ⟨Tryd.underlying144, by kernel_rfl, rfl, rfl, rfl⟩
theorem ti145 : TIOk Tryd.prog 145 ⟨(@Go.TypeDesc.func #[44] #[44] Bool.false), 1, 8, [Go.Value.nilFunc], false, Bool.false⟩ := ⟨Tryd.underlying145, by kernel_rfl, rfl, rfl, rfl⟩
theorem ti146 : TIOk Tryd.prog 146 ⟨(@Go.TypeDesc.array 24 5), 24, 24, [(@Go.Value.int Go.IntKind.u8 0), (@Go.Value.int Go.IntKind.u8 0), (@Go.Value.int Go.IntKind.u8 0), (@Go.Value.int Go.IntKind.u8 0), (@Go.Value.int Go.IntKind.u8 0), (@Go.Value.int Go.IntKind.u8 0), (@Go.Value.int Go.IntKind.u8 0), (@Go.Value.int Go.IntKind.u8 0), (@Go.Value.int Go.IntKind.u8 0), (@Go.Value.int Go.IntKind.u8 0), (@Go.Value.int Go.IntKind.u8 0), (@Go.Value.int Go.IntKind.u8 0), (@Go.Value.int Go.IntKind.u8 0), (@Go.Value.int Go.IntKind.u8 0), (@Go.Value.int Go.IntKind.u8 0), (@Go.Value.int Go.IntKind.u8 0), (@Go.Value.int Go.IntKind.u8 0), (@Go.Value.int Go.IntKind.u8 0), (@Go.Value.int Go.IntKind.u8 0), (@Go.Value.int Go.IntKind.u8 0), (@Go.Value.int Go.IntKind.u8 0), (@Go.Value.int Go.IntKind.u8 0), (@Go.Value.int Go.IntKind.u8 0), (@Go.Value.int Go.IntKind.u8 0)], true, Bool.true⟩ := ⟨Tryd.underlying146, by kernel_rfl, rfl, rfl, rfl⟩
theorem ti147 : TIOk Tryd.prog 147 ⟨(@Go.TypeDesc.func #[22] #[3] Bool.false), 1, 8, [Go.Value.nilFunc], false, Bool.false⟩ := ⟨Tryd.underlying147, by kernel_rfl, rfl, rfl, rfl⟩
theorem ti148 : TIOk Tryd.prog 148 ⟨(@Go.TypeDesc.func #[46, 22] #[] Bool.false), 1, 8, [Go.Value.nilFunc], false, Bool.false⟩ := ⟨Tryd.underlying148, by kernel_rfl, rfl, rfl, rfl⟩
theorem ti149 : TIOk Tryd.prog 149 ⟨(@Go.TypeDesc.tuple #[46, 9]), 1, 0, [(@Go.Value.tuple #[(@Go.Value.slice none 0 0), (@Go.Value.string (@ByteArray.mk #[]))])], false, Bool.false⟩ := ⟨Tryd.underlying149, by kernel_rfl, rfl, rfl, rfl⟩
theorem ti150 : TIOk Tryd.prog 150 ⟨(@Go.TypeDesc.func #[46, 22, 3, 4, 4] #[46, 9] Bool.false), 1, 8, [Go.Value.nilFunc], false, Bool.false⟩ := ⟨Tryd.underlying150, by kernel_rfl, rfl, rfl, rfl⟩
theorem ti151 : TIOk Tryd.prog 151 ⟨(@Go.TypeDesc.array 16 44), 16, 64, [(@Go.Value.int Go.IntKind.u32 0), (@Go.Value.int Go.IntKind.u32 0), (@Go.Value.int Go.IntKind.u32 0), (@Go.Value.int Go.IntKind.u32 0), (@Go.Value.int Go.IntKind.u32 0), (@Go.Value.int Go.IntKind.u32 0), (@Go.Value.int Go.IntKind.u32 0), (@Go.Value.int Go.IntKind.u32 0), (@Go.Value.int Go.IntKind.u32 0), (@Go.Value.int Go.IntKind.u32 0), (@Go.Value.int Go.IntKind.u32 0), (@Go.Value.int Go.IntKind.u32 0), (@Go.Value.int Go.IntKind.u32 0), (@Go.Value.int Go.IntKind.u32 0), (@Go.Value.int Go.IntKind.u32 0), (@Go.Value.int Go.IntKind.u32 0)], true, Bool.true⟩ := ⟨Tryd.underlying151, by kernel_rfl, rfl, rfl, rfl⟩
theorem ti152 : TIOk Tryd.prog 152 ⟨(@Go.TypeDesc.func #[3] #[3] Bool.false), 1, 8, [Go.Value.nilFunc], false, Bool.false⟩ := ⟨Tryd.underlying152, by kernel_rfl, rfl, rfl, rfl⟩
theorem ti153 : TIOk Tryd.prog 153 ⟨(@Go.TypeDesc.func #[4] #[3] Bool.false), 1, 8, [Go.Value.nilFunc], false, Bool.false⟩ := ⟨Tryd.underlying153, by kernel_rfl, rfl, rfl, rfl⟩
theorem ti154 : TIOk Tryd.prog 154 ⟨(@Go.TypeDesc.array 20 22), 20, 160, [(@Go.Value.int Go.IntKind.u64 0), (@Go.Value.int Go.IntKind.u64 0), (@Go.Value.int Go.IntKind.u64 0), (@Go.Value.int Go.IntKind.u64 0), (@Go.Value.int Go.IntKind.u64 0), (@Go.Value.int Go.IntKind.u64 0), (@Go.Value.int Go.IntKind.u64 0), (@Go.Value.int Go.IntKind.u64 0), (@Go.Value.int Go.IntKind.u64 0), (@Go.Value.int Go.IntKind.u64 0), (@Go.Value.int Go.IntKind.u64 0), (@Go.Value.int Go.IntKind.u64 0), (@Go.Value.int Go.IntKind.u64 0), (@Go.Value.int Go.IntKind.u64 0), (@Go.Value.int Go.IntKind.u64 0), (@Go.Value.int Go.IntKind.u64 0), (@Go.Value.int Go.IntKind.u64 0), (@Go.Value.int Go.IntKind.u64 0), (@Go.Value.int Go.IntKind.u64 0), (@Go.Value.int Go.IntKind.u64 0)], true, Bool.true⟩ := ⟨Tryd.underlying154, by kernel_rfl, rfl, rfl, rfl⟩
theorem ti155 : TIOk Tryd.prog 155 ⟨(@Go.TypeDesc.array 65 5), 65, 65, [(@Go.Value.int Go.IntKind.u8 0), (@Go.Value.int Go.IntKind.u8 0), (@Go.Value.int Go.IntKind.u8 0), (@Go.Value.int Go.IntKind.u8 0), (@Go.Value.int Go.IntKind.u8 0), (@Go.Value.int Go.IntKind.u8 0), (@Go.Value.int Go.IntKind.u8 0), (@Go.Value.int Go.IntKind.u8 0), (@Go.Value.int Go.IntKind.u8 0), (@Go.Value.int Go.IntKind.u8 0), (@Go.Value.int Go.IntKind.u8 0), (@Go.Value.int Go.IntKind.u8 0), (@Go.Value.int Go.IntKind.u8 0), (@Go.Value.int Go.IntKind.u8 0), (@Go.Value.int Go.IntKind.u8 0), (@Go.Value.int Go.IntKind.u8 0), (@Go.Value.int Go.IntKind.u8 0), (@Go.Value.int Go.IntKind.u8 0), (@Go.Value.int Go.IntKind.u8 0), (@Go.Value.int Go.IntKind.u8 0), (@Go.Value.int Go.IntKind.u8 0), (@Go.Value.int Go.IntKind.u8 0), (@Go.Value.int Go.IntKind.u8 0), (@Go.Value.int Go.IntKind.u8 0), (@Go.Value.int Go.IntKind.u8 0), (@Go.Value.int Go.IntKind.u8 0), (@Go.Value.int Go.IntKind.u8 0), (@Go.Value.int Go.IntKind.u8 0), (@Go.Value.int Go.IntKind.u8 0), (@Go.Value.int Go.IntKind.u8 0), (@Go.Value.int Go.IntKind.u8 0), (@Go.Value.int Go.IntKind.u8 0), (@Go.Value.int Go.IntKind.u8 0), (@Go.Value.int Go.IntKind.u8 0), (@Go.Value.int Go.IntKind.u8 0), (@Go.Value.int Go.IntKind.u8 0), (@Go.Value.int Go.IntKind.u8 0), (@Go.Value.int Go.IntKind.u8 0), (@Go.Value.int Go.IntKind.u8 0), (@Go.Value.int Go.IntKind.u8 0), (@Go.Value.int Go.IntKind.u8 0), (@Go.Value.int Go.IntKind.u8 0), (@Go.Value.int Go.IntKind.u8 0), (@Go.Value.int Go.IntKind.u8 0), (@Go.Value.int Go.IntKind.u8 0), (@Go.Value.int Go.IntKind.u8 0), (@Go.Value.int Go.IntKind.u8 0), (@Go.Value.int Go.IntKind.u8 0), (@Go.Value.int Go.IntKind.u8 0), (@Go.Value.int Go.IntKind.u8 0), (@Go.Value.int Go.IntKind.u8 0), (@Go.Value.int Go.IntKind.u8 0), (@Go.Value.int Go.IntKind.u8 0), (@Go.Value.int Go.IntKind.u8 0), (@Go.Value.int Go.IntKind.u8 0), (@Go.Value.int Go.IntKind.u8 0), (@Go.Value.int Go.IntKind.u8 0), (@Go.Value.int Go.IntKind.u8 0), (@Go.Value.int Go.IntKind.u8 0), (@Go.Value.int Go.IntKind.u8 0), (@Go.Value.int Go.IntKind.u8 0), (@Go.Value.int Go.IntKind.u8 0), (@Go.Value.int Go.IntKind.u8 0), (@Go.Value.int Go.IntKind.u8 0), (@Go.Value.int Go.IntKind.u8 0)], true, Bool.true⟩ := ⟨Tryd.underlying155, by kernel_rfl, rfl, rfl, rfl⟩
theorem ti156 : TIOk Tryd.prog 156 ⟨(@Go.TypeDesc.func #[3] #[4] Bool.false), 1, 8, [Go.Value.nilFunc], false, Bool.false⟩ := ⟨Tryd.underlying156, by kernel_rfl, rfl, rfl, rfl⟩
theorem ti157 : TIOk Tryd.prog 157 ⟨(@Go.TypeDesc.func #[43] #[3] Bool.false), 1, 8, [Go.Value.nilFunc], false, Bool.false⟩ := ⟨Tryd.underlying157, by kernel_rfl, rfl, rfl, rfl⟩
theorem ti158 : TIOk Tryd.prog 158 ⟨(@Go.TypeDesc.func #[44] #[3] Bool.false), 1, 8, [Go.Value.nilFunc], false, Bool.false⟩ := ⟨Tryd.underlying158, by kernel_rfl, rfl, rfl, rfl⟩
theorem ti159 : TIOk Tryd.prog 159 ⟨(@Go.TypeDesc.array 32 5), 32, 32, [(@Go.Value.int Go.IntKind.u8 0), (@Go.Value.int Go.IntKind.u8 0), (@Go.Value.int Go.IntKind.u8 0), (@Go.Value.int Go.IntKind.u8 0), (@Go.Value.int Go.IntKind.u8 0), (@Go.Value.int Go.IntKind.u8 0), (@Go.Value.int Go.IntKind.u8 0), (@Go.Value.int Go.IntKind.u8 0), (@Go.Value.int Go.IntKind.u8 0), (@Go.Value.int Go.IntKind.u8 0), (@Go.Value.int Go.IntKind.u8 0), (@Go.Value.int Go.IntKind.u8 0), (@Go.Value.int Go.IntKind.u8 0), (@Go.Value.int Go.IntKind.u8 0), (@Go.Value.int Go.IntKind.u8 0), (@Go.Value.int Go.IntKind.u8 0), (@Go.Value.int Go.IntKind.u8 0), (@Go.Value.int Go.IntKind.u8 0), (@Go.Value.int Go.IntKind.u8 0), (@Go.Value.int Go.IntKind.u8 0), (@Go.Value.int Go.IntKind.u8 0), (@Go.Value.int Go.IntKind.u8 0), (@Go.Value.int Go.IntKind.u8 0), (@Go.Value.int Go.IntKind.u8 0), (@Go.Value.int Go.IntKind.u8 0), (@Go.Value.int Go.IntKind.u8 0), (@Go.Value.int Go.IntKind.u8 0), (@Go.Value.int Go.IntKind.u8 0), (@Go.Value.int Go.IntKind.u8 0), (@Go.Value.int Go.IntKind.u8 0), (@Go.Value.int Go.IntKind.u8 0), (@Go.Value.int Go.IntKind.u8 0)], true, Bool.true⟩ := ⟨Tryd.underlying159, by kernel_rfl, rfl, rfl, rfl⟩
theorem ti160 : TIOk Tryd.prog 160 ⟨(@Go.TypeDesc.array 64 5), 64, 64, [(@Go.Value.int Go.IntKind.u8 0), (@Go.Value.int Go.IntKind.u8 0), (@Go.Value.int Go.IntKind.u8 0), (@Go.Value.int Go.IntKind.u8 0), (@Go.Value.int Go.IntKind.u8 0), (@Go.Value.int Go.IntKind.u8 0), (@Go.Value.int Go.IntKind.u8 0), (@Go.Value.int Go.IntKind.u8 0), (@Go.Value.int Go.IntKind.u8 0), (@Go.Value.int Go.IntKind.u8 0), (@Go.Value.int Go.IntKind.u8 0), (@Go.Value.int Go.IntKind.u8 0), (@Go.Value.int Go.IntKind.u8 0), (@Go.Value.int Go.IntKind.u8 0), (@Go.Value.int Go.IntKind.u8 0), (@Go.Value.int Go.IntKind.u8 0), (@Go.Value.int Go.IntKind.u8 0), (@Go.Value.int Go.IntKind.u8 0), (@Go.Value.int Go.IntKind.u8 0), (@Go.Value.int Go.IntKind.u8 0), (@Go.Value.int Go.IntKind.u8 0), (@Go.Value.int Go.IntKind.u8 0), (@Go.Value.int Go.IntKind.u8 0), (@Go.Value.int Go.IntKind.u8 0), (@Go.Value.int Go.IntKind.u8 0), (@Go.Value.int Go.IntKind.u8 0), (@Go.Value.int Go.IntKind.u8 0), (@Go.Value.int Go.IntKind.u8 0), (@Go.Value.int Go.IntKind.u8 0), (@Go.Value.int Go.IntKind.u8 0), (@Go.Value.int Go.IntKind.u8 0), (@Go.Value.int Go.IntKind.u8 0), (@Go.Value.int Go.IntKind.u8 0), (@Go.Value.int Go.IntKind.u8 0), (@Go.Value.int Go.IntKind.u8 0), (@Go.Value.int Go.IntKind.u8 0), (@Go.Value.int Go.IntKind.u8 0), (@Go.Value.int Go.IntKind.u8 0), (@Go.Value.int Go.IntKind.u8 0), (@Go.Value.int Go.IntKind.u8 0), (@Go.Value.int Go.IntKind.u8 0), (@Go.Value.int Go.IntKind.u8 0), (@Go.Value.int Go.IntKind.u8 0), (@Go.Value.int Go.IntKind.u8 0), (@Go.Value.int Go.IntKind.u8 0), (@Go.Value.int Go.IntKind.u8 0), (@Go.Value.int Go.IntKind.u8 0), (@Go.Value.int Go.IntKind.u8 0), (@Go.Value.int Go.IntKind.u8 0), (@Go.Value.int Go.IntKind.u8 0), (@Go.Value.int Go.IntKind.u8 0), (@Go.Value.int Go.IntKind.u8 0), (@Go.Value.int Go.IntKind.u8 0), (@Go.Value.int Go.IntKind.u8 0), (@Go.Value.int Go.IntKind.u8 0), (@Go.Value.int Go.IntKind.u8 0), (@Go.Value.int Go.IntKind.u8 0), (@Go.Value.int Go.IntKind.u8 0), (@Go.Value.int Go.IntKind.u8 0), (@Go.Value.int Go.IntKind.u8 0), (@Go.Value.int Go.IntKind.u8 0), (@Go.Value.int Go.IntKind.u8 0), (@Go.Value.int Go.IntKind.u8 0), (@Go.Value.int Go.IntKind.u8 0)], true, Bool.true⟩ := ⟨Tryd.underlying160, by kernel_rfl, rfl, rfl, rfl⟩
theorem ti161 : TIOk Tryd.prog 161 ⟨(@Go.TypeDesc.struct #[(@Go.Field.mk "_interface" 17 0 Bool.false "" "runtime" 0), (@Go.Field.mk "concrete" 17 1 Bool.false "" "runtime" 8), (@Go.Field.mk "asserted" 17 2 Bool.false "" "runtime" 16), (@Go.Field.mk "missingMethod" 9 3 Bool.false "" "runtime" 24)]), 4, 40, [(@Go.Value.pointer none), (@Go.Value.pointer none), (@Go.Value.pointer none), (@Go.Value.string (@ByteArray.mk #[]))], true, Bool.true⟩ := ⟨Tryd.underlying161, by kernel_rfl, rfl, rfl, rfl⟩
theorem ti162 : TIOk Tryd.prog 162 ⟨(@Go.TypeDesc.struct #[(@Go.Field.mk "_interface" 17 0 Bool.false "" "runtime" 0), (@Go.Field.mk "concrete" 17 1 Bool.false "" "runtime" 8), (@Go.Field.mk "asserted" 17 2 Bool.false "" "runtime" 16), (@Go.Field.mk "missingMethod" 9 3 Bool.false "" "runtime" 24)]), 4, 40, [(@Go.Value.pointer none), (@Go.Value.pointer none), (@Go.Value.pointer none), (@Go.Value.string (@ByteArray.mk #[]))], true, Bool.true⟩ := ⟨Tryd.underlying162, by kernel_rfl, rfl, rfl, rfl⟩
theorem ti163 : TIOk Tryd.prog 163 ⟨(@Go.TypeDesc.array 0 16), 0, 0, [], true, Bool.true⟩ := ⟨Tryd.underlying163, by kernel_rfl, rfl, rfl, rfl⟩
theorem ti164 : TIOk Tryd.prog 164 ⟨(@Go.TypeDesc.struct #[(@Go.Field.mk "_" 163 0 Bool.false "" "runtime" 0)]), 0, 0, [], true, Bool.true⟩ := ⟨Tryd.underlying164, by kernel_rfl, rfl, rfl, rfl⟩
theorem ti165 : TIOk Tryd.prog 165 ⟨(@Go.TypeDesc.struct #[(@Go.Field.mk "_" 163 0 Bool.false "" "runtime" 0)]), 0, 0, [], true, Bool.true⟩ := ⟨Tryd.underlying165, by kernel_rfl, rfl, rfl, rfl⟩
theorem ti166 : TIOk Tryd.prog 166 ⟨(@Go.TypeDesc.func #[] #[17] Bool.false), 1, 8, [Go.Value.nilFunc], false, Bool.false⟩ := ⟨Tryd.underlying166, by kernel_rfl, rfl, rfl, rfl⟩
theorem ti167 : TIOk Tryd.prog 167 ⟨(@Go.TypeDesc.int Go.IntKind.u8), 1, 1, [(@Go.Value.int Go.IntKind.u8 0)], false, Bool.true⟩ := ⟨Tryd.underlying167, by kernel_rfl, rfl, rfl, rfl⟩
theorem ti168 : TIOk Tryd.prog 168 ⟨(@Go.TypeDesc.func #[108, 108] #[4] Bool.false), 1, 8, [Go.Value.nilFunc], false, Bool.false⟩ := ⟨Tryd.underlying168, by kernel_rfl, rfl, rfl, rfl⟩
theorem ti169 : TIOk Tryd.prog 169 ⟨(@Go.TypeDesc.int Go.IntKind.i32), 1, 4, [(@Go.Value.int Go.IntKind.i32 0)], false, Bool.true⟩ := ⟨Tryd.underlying169, by kernel_rfl, rfl, rfl, rfl⟩
theorem ti170 : TIOk Tryd.prog 170 ⟨(@Go.TypeDesc.int Go.IntKind.i32), 1, 4, [(@Go.Value.int Go.IntKind.i32 0)], false, Bool.true⟩ := ⟨Tryd.underlying170, by kernel_rfl, rfl, rfl, rfl⟩
theorem ti171 : TIOk Tryd.prog 171 ⟨(@Go.TypeDesc.struct #[(@Go.Field.mk "Size_" 12 0 Bool.false "" "" 0), (@Go.Field.mk "PtrBytes" 12 1 Bool.false "" "" 8), (@Go.Field.mk "Hash" 44 2 Bool.false "" "" 16), (@Go.Field.mk "TFlag" 167 3 Bool.false "" "" 20), (@Go.Field.mk "Align_" 5 4 Bool.false "" "" 21), (@Go.Field.mk "FieldAlign_" 5 5 Bool.false "" "" 22), (@Go.Field.mk "Kind_" 116 6 Bool.false "" "" 23), (@Go.Field.mk "Equal" 168 7 Bool.false "" "" 24), (@Go.Field.mk "GCData" 123 8 Bool.false "" "" 32), (@Go.Field.mk "Str" 169 9 Bool.false "" "" 40), (@Go.Field.mk "PtrToThis" 170 10 Bool.false "" "" 44)]), 11, 48, [(@Go.Value.int Go.IntKind.u64 0), (@Go.Value.int Go.IntKind.u64 0), (@Go.Value.int Go.IntKind.u32 0), (@Go.Value.int Go.IntKind.u8 0), (@Go.Value.int Go.IntKind.u8 0), (@Go.Value.int Go.IntKind.u8 0), (@Go.Value.int Go.IntKind.u8 0), Go.Value.nilFunc, (@Go.Value.pointer none), (@Go.Value.int Go.IntKind.i32 0), (@Go.Value.int Go.IntKind.i32 0)], true, Bool.false⟩ := ⟨Tryd.underlying171, by kernel_rfl, rfl, rfl, rfl⟩
theorem ti172 : TIOk Tryd.prog 172 ⟨(@Go.TypeDesc.struct #[(@Go.Field.mk "Size_" 12 0 Bool.false "" "" 0), (@Go.Field.mk "PtrBytes" 12 1 Bool.false "" "" 8), (@Go.Field.mk "Hash" 44 2 Bool.false "" "" 16), (@Go.Field.mk "TFlag" 167 3 Bool.false "" "" 20), (@Go.Field.mk "Align_" 5 4 Bool.false "" "" 21), (@Go.Field.mk "FieldAlign_" 5 5 Bool.false "" "" 22), (@Go.Field.mk "Kind_" 116 6 Bool.false "" "" 23), (@Go.Field.mk "Equal" 168 7 Bool.false "" "" 24), (@Go.Field.mk "GCData" 123 8 Bool.false "" "" 32), (@Go.Field.mk "Str" 169 9 Bool.false "" "" 40), (@Go.Field.mk "PtrToThis" 170 10 Bool.false "" "" 44)]), 11, 48, [(@Go.Value.int Go.IntKind.u64 0), (@Go.Value.int Go.IntKind.u64 0), (@Go.Value.int Go.IntKind.u32 0), (@Go.Value.int Go.IntKind.u8 0), (@Go.Value.int Go.IntKind.u8 0), (@Go.Value.int Go.IntKind.u8 0), (@Go.Value.int Go.IntKind.u8 0), Go.Value.nilFunc, (@Go.Value.pointer none), (@Go.Value.int Go.IntKind.i32 0), (@Go.Value.int Go.IntKind.i32 0)], true, Bool.false⟩ := ⟨Tryd.underlying172, by kernel_rfl, rfl, rfl, rfl⟩
theorem ti173 : TIOk Tryd.prog 173 ⟨(@Go.TypeDesc.func #[] #[12] Bool.false), 1, 8, [Go.Value.nilFunc], false, Bool.false⟩ := ⟨Tryd.underlying173, by kernel_rfl, rfl, rfl, rfl⟩
theorem ti174 : TIOk Tryd.prog 174 ⟨(@Go.TypeDesc.func #[] #[177] Bool.false), 1, 8, [Go.Value.nilFunc], false, Bool.false⟩ := ⟨Tryd.underlying174, by kernel_rfl, rfl, rfl, rfl⟩
theorem ti175 : TIOk Tryd.prog 175 ⟨(@Go.TypeDesc.struct #[(@Go.Field.mk "Method" 9 0 Bool.false "" "" 0), (@Go.Field.mk "Kind" 116 1 Bool.false "" "" 16)]), 2, 24, [(@Go.Value.string (@ByteArray.mk #[])), (@Go.Value.int Go.IntKind.u8 0)], true, Bool.true⟩ := ⟨Tryd.underlying175, by kernel_rfl, rfl, rfl, rfl⟩
theorem ti176 : TIOk Tryd.prog 176 ⟨(@Go.TypeDesc.struct #[(@Go.Field.mk "Method" 9 0 Bool.false "" "" 0), (@Go.Field.mk "Kind" 116 1 Bool.false "" "" 16)]), 2, 24, [(@Go.Value.string (@ByteArray.mk #[])), (@Go.Value.int Go.IntKind.u8 0)], true, Bool.true⟩ := ⟨Tryd.underlying176, by kernel_rfl, rfl, rfl, rfl⟩
theorem ti177 : TIOk Tryd.prog 177 ⟨(@Go.TypeDesc.pointer 181), 1, 8, [(@Go.Value.pointer none)], false, Bool.true⟩ := ⟨Tryd.underlying177, by kernel_rfl, rfl, rfl, rfl⟩
theorem ti178 : TIOk Tryd.prog 178 ⟨(@Go.TypeDesc.func #[] #[182] Bool.false), 1, 8, [Go.Value.nilFunc], false, Bool.false⟩ := ⟨Tryd.underlying178, by kernel_rfl, rfl, rfl, rfl⟩
theorem ti179 : TIOk Tryd.prog 179 ⟨(@Go.TypeDesc.int Go.IntKind.u16), 1, 2, [(@Go.Value.int Go.IntKind.u16 0)], false, Bool.true⟩ := ⟨Tryd.underlying179, by kernel_rfl, rfl, rfl, rfl⟩
theorem ti180 : TIOk Tryd.prog 180 ⟨(@Go.TypeDesc.struct #[(@Go.Field.mk "PkgPath" 169 0 Bool.false "" "" 0), (@Go.Field.mk "Mcount" 179 1 Bool.false "" "" 4), (@Go.Field.mk "Xcount" 179 2 Bool.false "" "" 6), (@Go.Field.mk "Moff" 44 3 Bool.false "" "" 8), (@Go.Field.mk "_" 44 4 Bool.false "" "internal/abi" 12)]), 5, 16, [(@Go.Value.int Go.IntKind.i32 0), (@Go.Value.int Go.IntKind.u16 0), (@Go.Value.int Go.IntKind.u16 0), (@Go.Value.int Go.IntKind.u32 0), (@Go.Value.int Go.IntKind.u32 0)], true, Bool.true⟩ := ⟨Tryd.underlying180, by kernel_rfl, rfl, rfl, rfl⟩
theorem ti181 : TIOk Tryd.prog 181 ⟨(@Go.TypeDesc.struct #[(@Go.Field.mk "PkgPath" 169 0 Bool.false "" "" 0), (@Go.Field.mk "Mcount" 179 1 Bool.false "" "" 4), (@Go.Field.mk "Xcount" 179 2 Bool.false "" "" 6), (@Go.Field.mk "Moff" 44 3 Bool.false "" "" 8), (@Go.Field.mk "_" 44 4 Bool.false "" "internal/abi" 12)]), 5, 16, [(@Go.Value.int Go.IntKind.i32 0), (@Go.Value.int Go.IntKind.u16 0), (@Go.Value.int Go.IntKind.u16 0), (@Go.Value.int Go.IntKind.u32 0), (@Go.Value.int Go.IntKind.u32 0)], true, Bool.true⟩ := ⟨Tryd.underlying181, by kernel_rfl, rfl, rfl, rfl⟩
theorem ti182 : TIOk Tryd.prog 182 ⟨(@Go.TypeDesc.slice 185), 1, 24, [(@Go.Value.slice none 0 0)], false, Bool.false⟩ := ⟨Tryd.underlying182, by kernel_rfl, rfl, rfl, rfl⟩
theorem ti183 : TIOk Tryd.prog 183 ⟨(@Go.TypeDesc.int Go.IntKind.i32), 1, 4, [(@Go.Value.int Go.IntKind.i32 0)], false, Bool.true⟩ := ⟨Tryd.underlying183, by kernel_rfl, rfl, rfl, rfl⟩
theorem ti184 : TIOk Tryd.prog 184 ⟨(@Go.TypeDesc.struct #[(@Go.Field.mk "Name" 169 0 Bool.false "" "" 0), (@Go.Field.mk "Mtyp" 170 1 Bool.false "" "" 4), (@Go.Field.mk "Ifn" 183 2 Bool.false "" "" 8), (@Go.Field.mk "Tfn" 183 3 Bool.false "" "" 12)]), 4, 16, [(@Go.Value.int Go.IntKind.i32 0), (@Go.Value.int Go.IntKind.i32 0), (@Go.Value.int Go.IntKind.i32 0), (@Go.Value.int Go.IntKind.i32 0)], true, Bool.true⟩ := ⟨Tryd.underlying184, by kernel_rfl, rfl, rfl, rfl⟩
theorem ti185 : TIOk Tryd.prog 185 ⟨(@Go.TypeDesc.struct #[(@Go.Field.mk "Name" 169 0 Bool.false "" "" 0), (@Go.Field.mk "Mtyp" 170 1 Bool.false "" "" 4), (@Go.Field.mk "Ifn" 183 2 Bool.false "" "" 8), (@Go.Field.mk "Tfn" 183 3 Bool.false "" "" 12)]), 4, 16, [(@Go.Value.int Go.IntKind.i32 0), (@Go.Value.int Go.IntKind.i32 0), (@Go.Value.int Go.IntKind.i32 0), (@Go.Value.int Go.IntKind.i32 0)], true, Bool.true⟩ := ⟨Tryd.underlying185, by kernel_rfl, rfl, rfl, rfl⟩
theorem ti186 : TIOk Tryd.prog 186 ⟨(@Go.TypeDesc.pointer 48), 1, 8, [(@Go.Value.pointer none)], false, Bool.true⟩ := ⟨Tryd.underlying186, by kernel_rfl, rfl, rfl, rfl⟩
def tab : Tab := (.node 93 ⟨(@Go.TypeDesc.struct #[(@Go.Field.mk "b" 46 0 Bool.false "" "isobar/script" 0), (@Go.Field.mk "over" 4 1 Bool.false "" "isobar/script" 24)]), 2, 32, [(@Go.Value.slice none 0 0), (@Go.Value.bool Bool.false)], true, Bool.false⟩ (.node 46 ⟨(@Go.TypeDesc.slice 5), 1, 24, [(@Go.Value.slice none 0 0)], false, Bool.false⟩ (.node 22 ⟨(@Go.TypeDesc.int Go.IntKind.u64), 1, 8, [(@Go.Value.int Go.IntKind.u64 0)], false, Bool.true⟩ (.node 10 ⟨Go.TypeDesc.string, 1, 16, [(@Go.Value.string (@ByteArray.mk #[]))], false, Bool.true⟩ (.node 4 ⟨Go.TypeDesc.bool, 1, 1, [(@Go.Value.bool Bool.false)], false, Bool.true⟩ (.node 1 ⟨(@Go.TypeDesc.func #[] #[] Bool.false), 1, 8, [Go.Value.nilFunc], false, Bool.false⟩ (.node 0 ⟨(@Go.TypeDesc.tuple #[]), 1, 0, [(@Go.Value.tuple #[])], false, Bool.false⟩ .leaf .leaf) (.node 2 ⟨(@Go.TypeDesc.int Go.IntKind.i64), 1, 8, [(@Go.Value.int Go.IntKind.i64 0)], false, Bool.true⟩ .leaf (.node 3 ⟨(@Go.TypeDesc.int Go.IntKind.i64), 1, 8, [(@Go.Value.int Go.IntKind.i64 0)], false, Bool.true⟩ .leaf .leaf))) (.node 7 ⟨(@Go.TypeDesc.struct #[(@Go.Field.mk "x" 2 0 Bool.false "" "runtime" 0), (@Go.Field.mk "y" 3 1 Bool.false "" "runtime" 8), (@Go.Field.mk "signed" 4 2 Bool.false "" "runtime" 16), (@Go.Field.mk "code" 6 3 Bool.false "" "runtime" 17)]), 4, 24, [(@Go.Value.int Go.IntKind.i64 0), (@Go.Value.int Go.IntKind.i64 0), (@Go.Value.bool Bool.false), (@Go.Value.int Go.IntKind.u8 0)], true, Bool.true⟩ (.node 5 ⟨(@Go.TypeDesc.int Go.IntKind.u8), 1, 1, [(@Go.Value.int Go.IntKind.u8 0)], false, Bool.true⟩ .leaf (.node 6 ⟨(@Go.TypeDesc.int Go.IntKind.u8), 1, 1, [(@Go.Value.int Go.IntKind.u8 0)], false, Bool.true⟩ .leaf .leaf)) (.node 8 ⟨(@Go.TypeDesc.struct #[(@Go.Field.mk "x" 2 0 Bool.false "" "runtime" 0), (@Go.Field.mk "y" 3 1 Bool.false "" "runtime" 8), (@Go.Field.mk "signed" 4 2 Bool.false "" "runtime" 16), (@Go.Field.mk "code" 6 3 Bool.false "" "runtime" 17)]), 4, 24, [(@Go.Value.int Go.IntKind.i64 0), (@Go.Value.int Go.IntKind.i64 0), (@Go.Value.bool Bool.false), (@Go.Value.int Go.IntKind.u8 0)], true, Bool.true⟩ .leaf (.node 9 ⟨Go.TypeDesc.string, 1, 16, [(@Go.Value.string (@ByteArray.mk #[]))], false, Bool.true⟩ .leaf .leaf)))) (.node 16 ⟨(@Go.TypeDesc.pointer 165), 1, 8, [(@Go.Value.pointer none)], false, Bool.true⟩ (.node 13 ⟨(@Go.TypeDesc.struct #[(@Go.Field.mk "msg" 9 0 Bool.false "" "runtime" 0), (@Go.Field.mk "addr" 12 1 Bool.false "" "runtime" 16)]), 2, 24, [(@Go.Value.string (@ByteArray.mk #[])), (@Go.Value.int Go.IntKind.u64 0)], true, Bool.true⟩ (.node 11 ⟨Go.TypeDesc.string, 1, 16, [(@Go.Value.string (@ByteArray.mk #[]))], false, Bool.true⟩ .leaf (.node 12 ⟨(@Go.TypeDesc.int Go.IntKind.u64), 1, 8, [(@Go.Value.int Go.IntKind.u64 0)], false, Bool.true⟩ .leaf .leaf)) (.node 14 ⟨(@Go.TypeDesc.struct #[(@Go.Field.mk "msg" 9 0 Bool.false "" "runtime" 0), (@Go.Field.mk "addr" 12 1 Bool.false "" "runtime" 16)]), 2, 24, [(@Go.Value.string (@ByteArray.mk #[])), (@Go.Value.int Go.IntKind.u64 0)], true, Bool.true⟩ .leaf (.node 15 ⟨(@Go.TypeDesc.pointer 162), 1, 8, [(@Go.Value.pointer none)], false, Bool.true⟩ .leaf .leaf))) (.node 19 ⟨(@Go.TypeDesc.struct #[(@Go.Field.mk "typ" 17 0 Bool.false "" "internal/runtime/maps" 0)]), 1, 8, [(@Go.Value.pointer none)], true, Bool.true⟩ (.node 17 ⟨(@Go.TypeDesc.pointer 172), 1, 8, [(@Go.Value.pointer none)], false, Bool.true⟩ .leaf (.node 18 ⟨(@Go.TypeDesc.struct #[(@Go.Field.mk "typ" 17 0 Bool.false "" "internal/runtime/maps" 0)]), 1, 8, [(@Go.Value.pointer none)], true, Bool.true⟩ .leaf .leaf)) (.node 20 ⟨(@Go.TypeDesc.interface #[]), 1, 16, [Go.Value.nilIface], false, Bool.true⟩ .leaf (.node 21 ⟨(@Go.TypeDesc.int Go.IntKind.i32), 1, 4, [(@Go.Value.int Go.IntKind.i32 0)], false, Bool.true⟩ .leaf .leaf))))) (.node 34 ⟨(@Go.TypeDesc.struct #[(@Go.Field.mk "Id" 3 0 Bool.false "" "" 0), (@Go.Field.mk "Seq" 3 1 Bool.false "" "" 8), (@Go.Field.mk "Code" 3 2 Bool.false "" "" 16)]), 3, 24, [(@Go.Value.int Go.IntKind.i64 0), (@Go.Value.int Go.IntKind.i64 0), (@Go.Value.int Go.IntKind.i64 0)], true, Bool.true⟩ (.node 28 ⟨(@Go.TypeDesc.func #[] #[4] Bool.false), 1, 8, [Go.Value.nilFunc], false, Bool.false⟩ (.node 25 ⟨(@Go.TypeDesc.slice 34), 1, 24, [(@Go.Value.slice none 0 0)], false, Bool.false⟩ (.node 23 ⟨(@Go.TypeDesc.struct #[(@Go.Field.mk "Kind" 3 0 Bool.false "" "" 0), (@Go.Field.mk "V" 3 1 Bool.false "" "" 8), (@Go.Field.mk "I" 3 2 Bool.false "" "" 16), (@Go.Field.mk "Block" 3 3 Bool.false "" "" 24), (@Go.Field.mk "N" 3 4 Bool.false "" "" 32), (@Go.Field.mk "Data" 9 5 Bool.false "" "" 40), (@Go.Field.mk "Keep" 22 6 Bool.false "" "" 56)]), 7, 64, [(@Go.Value.int Go.IntKind.i64 0), (@Go.Value.int Go.IntKind.i64 0), (@Go.Value.int Go.IntKind.i64 0), (@Go.Value.int Go.IntKind.i64 0), (@Go.Value.int Go.IntKind.i64 0), (@Go.Value.string (@ByteArray.mk #[])), (@Go.Value.int Go.IntKind.u64 0)], true, Bool.true⟩ .leaf (.node 24 ⟨(@Go.TypeDesc.struct #[(@Go.Field.mk "Kind" 3 0 Bool.false "" "" 0), (@Go.Field.mk "V" 3 1 Bool.false "" "" 8), (@Go.Field.mk "I" 3 2 Bool.false "" "" 16), (@Go.Field.mk "Block" 3 3 Bool.false "" "" 24), (@Go.Field.mk "N" 3 4 Bool.false "" "" 32), (@Go.Field.mk "Data" 9 5 Bool.false "" "" 40), (@Go.Field.mk "Keep" 22 6 Bool.false "" "" 56)]), 7, 64, [(@Go.Value.int Go.IntKind.i64 0), (@Go.Value.int Go.IntKind.i64 0), (@Go.Value.int Go.IntKind.i64 0), (@Go.Value.int Go.IntKind.i64 0), (@Go.Value.int Go.IntKind.i64 0), (@Go.Value.string (@ByteArray.mk #[])), (@Go.Value.int Go.IntKind.u64 0)], true, Bool.true⟩ .leaf .leaf)) (.node 26 ⟨(@Go.TypeDesc.struct #[(@Go.Field.mk "Code" 3 0 Bool.false "" "" 0), (@Go.Field.mk "Seq" 3 1 Bool.false "" "" 8), (@Go.Field.mk "Data" 9 2 Bool.false "" "" 16), (@Go.Field.mk "Done" 25 3 Bool.false "" "" 32)]), 4, 56, [(@Go.Value.int Go.IntKind.i64 0), (@Go.Value.int Go.IntKind.i64 0), (@Go.Value.string (@ByteArray.mk #[])), (@Go.Value.slice none 0 0)], true, Bool.false⟩ .leaf (.node 27 ⟨(@Go.TypeDesc.struct #[(@Go.Field.mk "Code" 3 0 Bool.false "" "" 0), (@Go.Field.mk "Seq" 3 1 Bool.false "" "" 8), (@Go.Field.mk "Data" 9 2 Bool.false "" "" 16), (@Go.Field.mk "Done" 25 3 Bool.false "" "" 32)]), 4, 56, [(@Go.Value.int Go.IntKind.i64 0), (@Go.Value.int Go.IntKind.i64 0), (@Go.Value.string (@ByteArray.mk #[])), (@Go.Value.slice none 0 0)], true, Bool.false⟩ .leaf .leaf))) (.node 31 ⟨(@Go.TypeDesc.struct #[(@Go.Field.mk "Code" 29 0 Bool.false "" "" 0), (@Go.Field.mk "Seq" 3 1 Bool.false "" "" 8), (@Go.Field.mk "Data" 9 2 Bool.false "" "" 16), (@Go.Field.mk "Done" 30 3 Bool.false "" "" 32)]), 4, 56, [(@Go.Value.int Go.IntKind.i64 0), (@Go.Value.int Go.IntKind.i64 0), (@Go.Value.string (@ByteArray.mk #[])), (@Go.Value.slice none 0 0)], true, Bool.false⟩ (.node 29 ⟨(@Go.TypeDesc.int Go.IntKind.i64), 1, 8, [(@Go.Value.int Go.IntKind.i64 0)], false, Bool.true⟩ .leaf (.node 30 ⟨(@Go.TypeDesc.slice 36), 1, 24, [(@Go.Value.slice none 0 0)], false, Bool.false⟩ .leaf .leaf)) (.node 32 ⟨(@Go.TypeDesc.struct #[(@Go.Field.mk "Code" 29 0 Bool.false "" "" 0), (@Go.Field.mk "Seq" 3 1 Bool.false "" "" 8), (@Go.Field.mk "Data" 9 2 Bool.false "" "" 16), (@Go.Field.mk "Done" 30 3 Bool.false "" "" 32)]), 4, 56, [(@Go.Value.int Go.IntKind.i64 0), (@Go.Value.int Go.IntKind.i64 0), (@Go.Value.string (@ByteArray.mk #[])), (@Go.Value.slice none 0 0)], true, Bool.false⟩ .leaf (.node 33 ⟨(@Go.TypeDesc.struct #[(@Go.Field.mk "Id" 3 0 Bool.false "" "" 0), (@Go.Field.mk "Seq" 3 1 Bool.false "" "" 8), (@Go.Field.mk "Code" 3 2 Bool.false "" "" 16)]), 3, 24, [(@Go.Value.int Go.IntKind.i64 0), (@Go.Value.int Go.IntKind.i64 0), (@Go.Value.int Go.IntKind.i64 0)], true, Bool.true⟩ .leaf .leaf)))) (.node 40 ⟨(@Go.TypeDesc.func #[24, 27] #[4] Bool.false), 1, 8, [Go.Value.nilFunc], false, Bool.false⟩ (.node 37 ⟨(@Go.TypeDesc.func #[38, 32] #[9] Bool.false), 1, 8, [Go.Value.nilFunc], false, Bool.false⟩ (.node 35 ⟨(@Go.TypeDesc.struct #[(@Go.Field.mk "Id" 3 0 Bool.false "" "" 0), (@Go.Field.mk "Seq" 3 1 Bool.false "" "" 8), (@Go.Field.mk "Code" 29 2 Bool.false "" "" 16)]), 3, 24, [(@Go.Value.int Go.IntKind.i64 0), (@Go.Value.int Go.IntKind.i64 0), (@Go.Value.int Go.IntKind.i64 0)], true, Bool.true⟩ .leaf (.node 36 ⟨(@Go.TypeDesc.struct #[(@Go.Field.mk "Id" 3 0 Bool.false "" "" 0), (@Go.Field.mk "Seq" 3 1 Bool.false "" "" 8), (@Go.Field.mk "Code" 29 2 Bool.false "" "" 16)]), 3, 24, [(@Go.Value.int Go.IntKind.i64 0), (@Go.Value.int Go.IntKind.i64 0), (@Go.Value.int Go.IntKind.i64 0)], true, Bool.true⟩ .leaf .leaf)) (.node 38 ⟨(@Go.TypeDesc.struct #[(@Go.Field.mk "Kind" 3 0 Bool.false "" "" 0), (@Go.Field.mk "V" 3 1 Bool.false "" "" 8), (@Go.Field.mk "I" 3 2 Bool.false "" "" 16), (@Go.Field.mk "Block" 3 3 Bool.false "" "" 24), (@Go.Field.mk "N" 3 4 Bool.false "" "" 32), (@Go.Field.mk "Data" 9 5 Bool.false "" "" 40), (@Go.Field.mk "Keep" 22 6 Bool.false "" "" 56)]), 7, 64, [(@Go.Value.int Go.IntKind.i64 0), (@Go.Value.int Go.IntKind.i64 0), (@Go.Value.int Go.IntKind.i64 0), (@Go.Value.int Go.IntKind.i64 0), (@Go.Value.int Go.IntKind.i64 0), (@Go.Value.string (@ByteArray.mk #[])), (@Go.Value.int Go.IntKind.u64 0)], true, Bool.true⟩ .leaf (.node 39 ⟨(@Go.TypeDesc.func #[24, 27] #[9] Bool.false), 1, 8, [Go.Value.nilFunc], false, Bool.false⟩ .leaf .leaf))) (.node 43 ⟨(@Go.TypeDesc.int Go.IntKind.u64), 1, 8, [(@Go.Value.int Go.IntKind.u64 0)], false, Bool.true⟩ (.node 41 ⟨(@Go.TypeDesc.struct #[(@Go.Field.mk "Seq" 3 0 Bool.false "" "" 0), (@Go.Field.mk "Kind" 3 1 Bool.false "" "" 8), (@Go.Field.mk "Block" 3 2 Bool.false "" "" 16), (@Go.Field.mk "Data" 9 3 Bool.false "" "" 24), (@Go.Field.mk "Number" 3 4 Bool.false "" "" 40)]), 5, 48, [(@Go.Value.int Go.IntKind.i64 0), (@Go.Value.int Go.IntKind.i64 0), (@Go.Value.int Go.IntKind.i64 0), (@Go.Value.string (@ByteArray.mk #[])), (@Go.Value.int Go.IntKind.i64 0)], true, Bool.true⟩ .leaf (.node 42 ⟨(@Go.TypeDesc.struct #[(@Go.Field.mk "Seq" 3 0 Bool.false "" "" 0), (@Go.Field.mk "Kind" 3 1 Bool.false "" "" 8), (@Go.Field.mk "Block" 3 2 Bool.false "" "" 16), (@Go.Field.mk "Data" 9 3 Bool.false "" "" 24), (@Go.Field.mk "Number" 3 4 Bool.false "" "" 40)]), 5, 48, [(@Go.Value.int Go.IntKind.i64 0), (@Go.Value.int Go.IntKind.i64 0), (@Go.Value.int Go.IntKind.i64 0), (@Go.Value.string (@ByteArray.mk #[])), (@Go.Value.int Go.IntKind.i64 0)], true, Bool.true⟩ .leaf .leaf)) (.node 44 ⟨(@Go.TypeDesc.int Go.IntKind.u32), 1, 4, [(@Go.Value.int Go.IntKind.u32 0)], false, Bool.true⟩ .leaf (.node 45 ⟨(@Go.TypeDesc.func #[42] #[4] Bool.false), 1, 8, [Go.Value.nilFunc], false, Bool.false⟩ .leaf .leaf)))))) (.node 69 ⟨(@Go.TypeDesc.func #[46, 9] #[46] Bool.false), 1, 8, [Go.Value.nilFunc], false, Bool.false⟩ (.node 57 ⟨(@Go.TypeDesc.tuple #[3, 4]), 1, 0, [(@Go.Value.tuple #[(@Go.Value.int Go.IntKind.i64 0), (@Go.Value.bool Bool.false)])], false, Bool.false⟩ (.node 51 ⟨(@Go.TypeDesc.tuple #[3, 42, 48]), 1, 0, [(@Go.Value.tuple #[(@Go.Value.int Go.IntKind.i64 0), (@Go.Value.agg #[(@Go.Value.int Go.IntKind.i64 0), (@Go.Value.int Go.IntKind.i64 0), (@Go.Value.int Go.IntKind.i64 0), (@Go.Value.string (@ByteArray.mk #[])), (@Go.Value.int Go.IntKind.i64 0)]), Go.Value.nilIface])], false, Bool.false⟩ (.node 48 ⟨(@Go.TypeDesc.interface #[("Error", 103)]), 1, 16, [Go.Value.nilIface], false, Bool.true⟩ (.node 47 ⟨(@Go.TypeDesc.interface #[("Error", 103)]), 1, 16, [Go.Value.nilIface], false, Bool.true⟩ .leaf .leaf) (.node 49 ⟨(@Go.TypeDesc.tuple #[46, 48]), 1, 0, [(@Go.Value.tuple #[(@Go.Value.slice none 0 0), Go.Value.nilIface])], false, Bool.false⟩ .leaf (.node 50 ⟨(@Go.TypeDesc.func #[3, 42] #[46, 48] Bool.false), 1, 8, [Go.Value.nilFunc], false, Bool.false⟩ .leaf .leaf))) (.node 54 ⟨(@Go.TypeDesc.func #[3, 42, 43, 44] #[4] Bool.false), 1, 8, [Go.Value.nilFunc], false, Bool.false⟩ (.node 52 ⟨(@Go.TypeDesc.func #[46] #[3, 42, 48] Bool.false), 1, 8, [Go.Value.nilFunc], false, Bool.false⟩ .leaf (.node 53 ⟨(@Go.TypeDesc.func #[48] #[29] Bool.false), 1, 8, [Go.Value.nilFunc], false, Bool.false⟩ .leaf .leaf)) (.node 55 ⟨(@Go.TypeDesc.tuple #[3, 42, 3]), 1, 0, [(@Go.Value.tuple #[(@Go.Value.int Go.IntKind.i64 0), (@Go.Value.agg #[(@Go.Value.int Go.IntKind.i64 0), (@Go.Value.int Go.IntKind.i64 0), (@Go.Value.int Go.IntKind.i64 0), (@Go.Value.string (@ByteArray.mk #[])), (@Go.Value.int Go.IntKind.i64 0)]), (@Go.Value.int Go.IntKind.i64 0)])], false, Bool.false⟩ .leaf (.node 56 ⟨(@Go.TypeDesc.func #[9] #[3, 42, 3] Bool.false), 1, 8, [Go.Value.nilFunc], false, Bool.false⟩ .leaf .leaf)))) (.node 63 ⟨(@Go.TypeDesc.slice 9), 1, 24, [(@Go.Value.slice none 0 0)], false, Bool.false⟩ (.node 60 ⟨(@Go.TypeDesc.slice 38), 1, 24, [(@Go.Value.slice none 0 0)], false, Bool.false⟩ (.node 58 ⟨(@Go.TypeDesc.func #[48, 9] #[3, 4] Bool.false), 1, 8, [Go.Value.nilFunc], false, Bool.false⟩ .leaf (.node 59 ⟨(@Go.TypeDesc.func #[9] #[4] Bool.false), 1, 8, [Go.Value.nilFunc], false, Bool.false⟩ .leaf .leaf)) (.node 61 ⟨(@Go.TypeDesc.func #[46] #[60] Bool.false), 1, 8, [Go.Value.nilFunc], false, Bool.false⟩ .leaf (.node 62 ⟨(@Go.TypeDesc.func #[9, 96] #[9] Bool.true), 1, 8, [Go.Value.nilFunc], false, Bool.false⟩ .leaf .leaf))) (.node 66 ⟨(@Go.TypeDesc.func #[3, 3] #[4] Bool.false), 1, 8, [Go.Value.nilFunc], false, Bool.false⟩ (.node 64 ⟨(@Go.TypeDesc.func #[63, 9] #[9] Bool.false), 1, 8, [Go.Value.nilFunc], false, Bool.false⟩ .leaf (.node 65 ⟨(@Go.TypeDesc.func #[3] #[9] Bool.false), 1, 8, [Go.Value.nilFunc], false, Bool.false⟩ .leaf .leaf)) (.node 67 ⟨(@Go.TypeDesc.func #[9, 3, 48] #[48] Bool.false), 1, 8, [Go.Value.nilFunc], false, Bool.false⟩ .leaf (.node 68 ⟨(@Go.TypeDesc.func #[46, 3] #[46] Bool.false), 1, 8, [Go.Value.nilFunc], false, Bool.false⟩ .leaf .leaf))))) (.node 81 ⟨(@Go.TypeDesc.func #[9] #[9, 4] Bool.false), 1, 8, [Go.Value.nilFunc], false, Bool.false⟩ (.node 75 ⟨(@Go.TypeDesc.func #[72] #[3, 42] Bool.false), 1, 8, [Go.Value.nilFunc], false, Bool.false⟩ (.node 72 ⟨(@Go.TypeDesc.pointer 107), 1, 8, [(@Go.Value.pointer none)], false, Bool.true⟩ (.node 70 ⟨(@Go.TypeDesc.tuple #[46, 4]), 1, 0, [(@Go.Value.tuple #[(@Go.Value.slice none 0 0), (@Go.Value.bool Bool.false)])], false, Bool.false⟩ .leaf (.node 71 ⟨(@Go.TypeDesc.func #[46] #[46, 4] Bool.false), 1, 8, [Go.Value.nilFunc], false, Bool.false⟩ .leaf .leaf)) (.node 73 ⟨(@Go.TypeDesc.func #[46] #[72] Bool.false), 1, 8, [Go.Value.nilFunc], false, Bool.false⟩ .leaf (.node 74 ⟨(@Go.TypeDesc.tuple #[3, 42]), 1, 0, [(@Go.Value.tuple #[(@Go.Value.int Go.IntKind.i64 0), (@Go.Value.agg #[(@Go.Value.int Go.IntKind.i64 0), (@Go.Value.int Go.IntKind.i64 0), (@Go.Value.int Go.IntKind.i64 0), (@Go.Value.string (@ByteArray.mk #[])), (@Go.Value.int Go.IntKind.i64 0)])])], false, Bool.false⟩ .leaf .leaf))) (.node 78 ⟨(@Go.TypeDesc.func #[48, 20] #[4] Bool.false), 1, 8, [Go.Value.nilFunc], false, Bool.false⟩ (.node 76 ⟨(@Go.TypeDesc.func #[] #[29] Bool.false), 1, 8, [Go.Value.nilFunc], false, Bool.false⟩ .leaf (.node 77 ⟨(@Go.TypeDesc.func #[46, 46] #[4] Bool.false), 1, 8, [Go.Value.nilFunc], false, Bool.false⟩ .leaf .leaf)) (.node 79 ⟨(@Go.TypeDesc.pointer 29), 1, 8, [(@Go.Value.pointer none)], false, Bool.true⟩ .leaf (.node 80 ⟨(@Go.TypeDesc.tuple #[9, 4]), 1, 0, [(@Go.Value.tuple #[(@Go.Value.string (@ByteArray.mk #[])), (@Go.Value.bool Bool.false)])], false, Bool.false⟩ .leaf .leaf)))) (.node 87 ⟨(@Go.TypeDesc.slice 89), 1, 24, [(@Go.Value.slice none 0 0)], false, Bool.false⟩ (.node 84 ⟨(@Go.TypeDesc.struct #[(@Go.Field.mk "B" 9 0 Bool.false "" "" 0), (@Go.Field.mk "E" 3 1 Bool.false "" "" 16)]), 2, 24, [(@Go.Value.string (@ByteArray.mk #[])), (@Go.Value.int Go.IntKind.i64 0)], true, Bool.true⟩ (.node 82 ⟨(@Go.TypeDesc.pointer 84), 1, 8, [(@Go.Value.pointer none)], false, Bool.true⟩ .leaf (.node 83 ⟨(@Go.TypeDesc.struct #[(@Go.Field.mk "B" 9 0 Bool.false "" "" 0), (@Go.Field.mk "E" 3 1 Bool.false "" "" 16)]), 2, 24, [(@Go.Value.string (@ByteArray.mk #[])), (@Go.Value.int Go.IntKind.i64 0)], true, Bool.true⟩ .leaf .leaf)) (.node 85 ⟨(@Go.TypeDesc.func #[] #[3] Bool.false), 1, 8, [Go.Value.nilFunc], false, Bool.false⟩ .leaf (.node 86 ⟨(@Go.TypeDesc.func #[3, 42] #[9] Bool.false), 1, 8, [Go.Value.nilFunc], false, Bool.false⟩ .leaf .leaf))) (.node 90 ⟨(@Go.TypeDesc.struct #[(@Go.Field.mk "Op" 9 0 Bool.false "" "" 0), (@Go.Field.mk "At" 3 1 Bool.false "" "" 16), (@Go.Field.mk "Err" 48 2 Bool.false "" "" 24)]), 3, 40, [(@Go.Value.string (@ByteArray.mk #[])), (@Go.Value.int Go.IntKind.i64 0), Go.Value.nilIface], true, Bool.true⟩ (.node 88 ⟨(@Go.TypeDesc.func #[48] #[87] Bool.false), 1, 8, [Go.Value.nilFunc], false, Bool.false⟩ .leaf (.node 89 ⟨(@Go.TypeDesc.pointer 91), 1, 8, [(@Go.Value.pointer none)], false, Bool.true⟩ .leaf .leaf)) (.node 91 ⟨(@Go.TypeDesc.struct #[(@Go.Field.mk "Op" 9 0 Bool.false "" "" 0), (@Go.Field.mk "At" 3 1 Bool.false "" "" 16), (@Go.Field.mk "Err" 48 2 Bool.false "" "" 24)]), 3, 40, [(@Go.Value.string (@ByteArray.mk #[])), (@Go.Value.int Go.IntKind.i64 0), Go.Value.nilIface], true, Bool.true⟩ .leaf (.node 92 ⟨(@Go.TypeDesc.pointer 94), 1, 8, [(@Go.Value.pointer none)], false, Bool.true⟩ .leaf .leaf))))))) (.node 140 ⟨(@Go.TypeDesc.func #[] #[139] Bool.false), 1, 8, [Go.Value.nilFunc], false, Bool.false⟩ (.node 116 ⟨(@Go.TypeDesc.int Go.IntKind.u8), 1, 1, [(@Go.Value.int Go.IntKind.u8 0)], false, Bool.true⟩ (.node 104 ⟨(@Go.TypeDesc.func #[46] #[46] Bool.false), 1, 8, [Go.Value.nilFunc], false, Bool.false⟩ (.node 98 ⟨(@Go.TypeDesc.struct #[(@Go.Field.mk "addr" 97 0 Bool.false "" "strings" 0), (@Go.Field.mk "buf" 46 1 Bool.false "" "strings" 8)]), 2, 32, [(@Go.Value.pointer none), (@Go.Value.slice none 0 0)], true, Bool.false⟩ (.node 95 ⟨(@Go.TypeDesc.func #[3, 3] #[38] Bool.false), 1, 8, [Go.Value.nilFunc], false, Bool.false⟩ (.node 94 ⟨(@Go.TypeDesc.struct #[(@Go.Field.mk "b" 46 0 Bool.false "" "isobar/script" 0), (@Go.Field.mk "over" 4 1 Bool.false "" "isobar/script" 24)]), 2, 32, [(@Go.Value.slice none 0 0), (@Go.Value.bool Bool.false)], true, Bool.false⟩ .leaf .leaf) (.node 96 ⟨(@Go.TypeDesc.slice 3), 1, 24, [(@Go.Value.slice none 0 0)], false, Bool.false⟩ .leaf (.node 97 ⟨(@Go.TypeDesc.pointer 99), 1, 8, [(@Go.Value.pointer none)], false, Bool.true⟩ .leaf .leaf))) (.node 101 ⟨(@Go.TypeDesc.tuple #[3, 48]), 1, 0, [(@Go.Value.tuple #[(@Go.Value.int Go.IntKind.i64 0), Go.Value.nilIface])], false, Bool.false⟩ (.node 99 ⟨(@Go.TypeDesc.struct #[(@Go.Field.mk "addr" 97 0 Bool.false "" "strings" 0), (@Go.Field.mk "buf" 46 1 Bool.false "" "strings" 8)]), 2, 32, [(@Go.Value.pointer none), (@Go.Value.slice none 0 0)], true, Bool.false⟩ .leaf (.node 100 ⟨(@Go.TypeDesc.func #[3] #[] Bool.false), 1, 8, [Go.Value.nilFunc], false, Bool.false⟩ .leaf .leaf)) (.node 102 ⟨(@Go.TypeDesc.func #[9] #[3, 48] Bool.false), 1, 8, [Go.Value.nilFunc], false, Bool.false⟩ .leaf (.node 103 ⟨(@Go.TypeDesc.func #[] #[9] Bool.false), 1, 8, [Go.Value.nilFunc], false, Bool.false⟩ .leaf .leaf)))) (.node 110 ⟨(@Go.TypeDesc.struct #[(@Go.Field.mk "typ_" 17 0 Bool.false "" "internal/reflectlite" 0), (@Go.Field.mk "ptr" 108 1 Bool.false "" "internal/reflectlite" 8), (@Go.Field.mk "flag" 109 2 Bool.true "" "internal/reflectlite" 16)]), 3, 24, [(@Go.Value.pointer none), (@Go.Value.pointer none), (@Go.Value.int Go.IntKind.u64 0)], true, Bool.true⟩ (.node 107 ⟨(@Go.TypeDesc.struct #[(@Go.Field.mk "b" 46 0 Bool.false "" "isobar/pack" 0), (@Go.Field.mk "err" 29 1 Bool.false "" "isobar/pack" 24)]), 2, 32, [(@Go.Value.slice none 0 0), (@Go.Value.int Go.IntKind.i64 0)], true, Bool.false⟩ (.node 105 ⟨(@Go.TypeDesc.func #[124] #[46] Bool.true), 1, 8, [Go.Value.nilFunc], false, Bool.false⟩ .leaf (.node 106 ⟨(@Go.TypeDesc.struct #[(@Go.Field.mk "b" 46 0 Bool.false "" "isobar/pack" 0), (@Go.Field.mk "err" 29 1 Bool.false "" "isobar/pack" 24)]), 2, 32, [(@Go.Value.slice none 0 0), (@Go.Value.int Go.IntKind.i64 0)], true, Bool.false⟩ .leaf .leaf)) (.node 108 ⟨Go.TypeDesc.unsafePointer, 1, 8, [(@Go.Value.pointer none)], false, Bool.true⟩ .leaf (.node 109 ⟨(@Go.TypeDesc.int Go.IntKind.u64), 1, 8, [(@Go.Value.int Go.IntKind.u64 0)], false, Bool.true⟩ .leaf .leaf))) (.node 113 ⟨(@Go.TypeDesc.interface #[("AssignableTo", 118), ("Comparable", 28), ("Elem", 115), ("Implements", 118), ("Kind", 117), ("Name", 103), ("PkgPath", 103), ("Size", 173), ("String", 103), ("internal/reflectlite.common", 166), ("internal/reflectlite.uncommon", 174)]), 1, 16, [Go.Value.nilIface], false, Bool.true⟩ (.node 111 ⟨(@Go.TypeDesc.struct #[(@Go.Field.mk "typ_" 17 0 Bool.false "" "internal/reflectlite" 0), (@Go.Field.mk "ptr" 108 1 Bool.false "" "internal/reflectlite" 8), (@Go.Field.mk "flag" 109 2 Bool.true "" "internal/reflectlite" 16)]), 3, 24, [(@Go.Value.pointer none), (@Go.Value.pointer none), (@Go.Value.int Go.IntKind.u64 0)], true, Bool.true⟩ .leaf (.node 112 ⟨(@Go.TypeDesc.func #[20] #[111] Bool.false), 1, 8, [Go.Value.nilFunc], false, Bool.false⟩ .leaf .leaf)) (.node 114 ⟨(@Go.TypeDesc.interface #[("AssignableTo", 118), ("Comparable", 28), ("Elem", 115), ("Implements", 118), ("Kind", 117), ("Name", 103), ("PkgPath", 103), ("Size", 173), ("String", 103), ("internal/reflectlite.common", 166), ("internal/reflectlite.uncommon", 174)]), 1, 16, [Go.Value.nilIface], false, Bool.true⟩ .leaf (.node 115 ⟨(@Go.TypeDesc.func #[] #[114] Bool.false), 1, 8, [Go.Value.nilFunc], false, Bool.false⟩ .leaf .leaf))))) (.node 128 ⟨(@Go.TypeDesc.struct #[(@Go.Field.mk "Type" 17 0 Bool.true "" "" 0)]), 1, 8, [(@Go.Value.pointer none)], true, Bool.true⟩ (.node 122 ⟨(@Go.TypeDesc.func #[] #[22] Bool.false), 1, 8, [Go.Value.nilFunc], false, Bool.false⟩ (.node 119 ⟨(@Go.TypeDesc.func #[48, 20, 111, 114] #[4] Bool.false), 1, 8, [Go.Value.nilFunc], false, Bool.false⟩ (.node 117 ⟨(@Go.TypeDesc.func #[] #[116] Bool.false), 1, 8, [Go.Value.nilFunc], false, Bool.false⟩ .leaf (.node 118 ⟨(@Go.TypeDesc.func #[114] #[4] Bool.false), 1, 8, [Go.Value.nilFunc], false, Bool.false⟩ .leaf .leaf)) (.node 120 ⟨(@Go.TypeDesc.func #[9] #[9] Bool.false), 1, 8, [Go.Value.nilFunc], false, Bool.false⟩ .leaf (.node 121 ⟨(@Go.TypeDesc.pointer 89), 1, 8, [(@Go.Value.pointer none)], false, Bool.true⟩ .leaf .leaf))) (.node 125 ⟨(@Go.TypeDesc.func #[46] #[44] Bool.false), 1, 8, [Go.Value.nilFunc], false, Bool.false⟩ (.node 123 ⟨(@Go.TypeDesc.pointer 5), 1, 8, [(@Go.Value.pointer none)], false, Bool.true⟩ .leaf (.node 124 ⟨(@Go.TypeDesc.slice 46), 1, 24, [(@Go.Value.slice none 0 0)], false, Bool.false⟩ .leaf .leaf)) (.node 126 ⟨(@Go.TypeDesc.func #[29] #[3] Bool.false), 1, 8, [Go.Value.nilFunc], false, Bool.false⟩ .leaf (.node 127 ⟨(@Go.TypeDesc.struct #[(@Go.Field.mk "Type" 17 0 Bool.true "" "" 0)]), 1, 8, [(@Go.Value.pointer none)], true, Bool.true⟩ .leaf .leaf)))) (.node 134 ⟨(@Go.TypeDesc.tuple #[133, 4]), 1, 0, [(@Go.Value.tuple #[Go.Value.nilIface, (@Go.Value.bool Bool.false)])], false, Bool.false⟩ (.node 131 ⟨(@Go.TypeDesc.func #[] #[111] Bool.false), 1, 8, [Go.Value.nilFunc], false, Bool.false⟩ (.node 129 ⟨(@Go.TypeDesc.pointer 176), 1, 8, [(@Go.Value.pointer none)], false, Bool.true⟩ .leaf (.node 130 ⟨(@Go.TypeDesc.func #[20] #[114] Bool.false), 1, 8, [Go.Value.nilFunc], false, Bool.false⟩ .leaf .leaf)) (.node 132 ⟨(@Go.TypeDesc.func #[111] #[] Bool.false), 1, 8, [Go.Value.nilFunc], false, Bool.false⟩ .leaf (.node 133 ⟨(@Go.TypeDesc.interface #[("As", 135)]), 1, 16, [Go.Value.nilIface], false, Bool.true⟩ .leaf .leaf))) (.node 137 ⟨(@Go.TypeDesc.func #[] #[48] Bool.false), 1, 8, [Go.Value.nilFunc], false, Bool.false⟩ (.node 135 ⟨(@Go.TypeDesc.func #[20] #[4] Bool.false), 1, 8, [Go.Value.nilFunc], false, Bool.false⟩ .leaf (.node 136 ⟨(@Go.TypeDesc.interface #[("Unwrap", 137)]), 1, 16, [Go.Value.nilIface], false, Bool.true⟩ .leaf .leaf)) (.node 138 ⟨(@Go.TypeDesc.interface #[("Unwrap", 140)]), 1, 16, [Go.Value.nilIface], false, Bool.true⟩ .leaf (.node 139 ⟨(@Go.TypeDesc.slice 48), 1, 24, [(@Go.Value.slice none 0 0)], false, Bool.false⟩ .leaf .leaf)))))) (.node 163 ⟨(@Go.TypeDesc.array 0 16), 0, 0, [], true, Bool.true⟩ (.node 151 ⟨(@Go.TypeDesc.array 16 44), 16, 64, [(@Go.Value.int Go.IntKind.u32 0), (@Go.Value.int Go.IntKind.u32 0), (@Go.Value.int Go.IntKind.u32 0), (@Go.Value.int Go.IntKind.u32 0), (@Go.Value.int Go.IntKind.u32 0), (@Go.Value.int Go.IntKind.u32 0), (@Go.Value.int Go.IntKind.u32 0), (@Go.Value.int Go.IntKind.u32 0), (@Go.Value.int Go.IntKind.u32 0), (@Go.Value.int Go.IntKind.u32 0), (@Go.Value.int Go.IntKind.u32 0), (@Go.Value.int Go.IntKind.u32 0), (@Go.Value.int Go.IntKind.u32 0), (@Go.Value.int Go.IntKind.u32 0), (@Go.Value.int Go.IntKind.u32 0), (@Go.Value.int Go.IntKind.u32 0)], true, Bool.true⟩ (.node 145 ⟨(@Go.TypeDesc.func #[44] #[44] Bool.false), 1, 8, [Go.Value.nilFunc], false, Bool.false⟩ (.node 142 ⟨(@Go.TypeDesc.func #[2, 3] #[9] Bool.false), 1, 8, [Go.Value.nilFunc], false, Bool.false⟩ (.node 141 ⟨(@Go.TypeDesc.func #[9] #[44] Bool.false), 1, 8, [Go.Value.nilFunc], false, Bool.false⟩ .leaf .leaf) (.node 143 ⟨(@Go.TypeDesc.func #[108] #[108] Bool.false), 1, 8, [Go.Value.nilFunc], false, Bool.false⟩ .leaf (.node 144 ⟨(@Go.TypeDesc.func #[3] #[46] Bool.false), 1, 8, [Go.Value.nilFunc], false, Bool.false⟩ .leaf .leaf))) (.node 148 ⟨(@Go.TypeDesc.func #[46, 22] #[] Bool.false), 1, 8, [Go.Value.nilFunc], false, Bool.false⟩ (.node 146 ⟨(@Go.TypeDesc.array 24 5), 24, 24, [(@Go.Value.int Go.IntKind.u8 0), (@Go.Value.int Go.IntKind.u8 0), (@Go.Value.int Go.IntKind.u8 0), (@Go.Value.int Go.IntKind.u8 0), (@Go.Value.int Go.IntKind.u8 0), (@Go.Value.int Go.IntKind.u8 0), (@Go.Value.int Go.IntKind.u8 0), (@Go.Value.int Go.IntKind.u8 0), (@Go.Value.int Go.IntKind.u8 0), (@Go.Value.int Go.IntKind.u8 0), (@Go.Value.int Go.IntKind.u8 0), (@Go.Value.int Go.IntKind.u8 0), (@Go.Value.int Go.IntKind.u8 0), (@Go.Value.int Go.IntKind.u8 0), (@Go.Value.int Go.IntKind.u8 0), (@Go.Value.int Go.IntKind.u8 0), (@Go.Value.int Go.IntKind.u8 0), (@Go.Value.int Go.IntKind.u8 0), (@Go.Value.int Go.IntKind.u8 0), (@Go.Value.int Go.IntKind.u8 0), (@Go.Value.int Go.IntKind.u8 0), (@Go.Value.int Go.IntKind.u8 0), (@Go.Value.int Go.IntKind.u8 0), (@Go.Value.int Go.IntKind.u8 0)], true, Bool.true⟩ .leaf (.node 147 ⟨(@Go.TypeDesc.func #[22] #[3] Bool.false), 1, 8, [Go.Value.nilFunc], false, Bool.false⟩ .leaf .leaf)) (.node 149 ⟨(@Go.TypeDesc.tuple #[46, 9]), 1, 0, [(@Go.Value.tuple #[(@Go.Value.slice none 0 0), (@Go.Value.string (@ByteArray.mk #[]))])], false, Bool.false⟩ .leaf (.node 150 ⟨(@Go.TypeDesc.func #[46, 22, 3, 4, 4] #[46, 9] Bool.false), 1, 8, [Go.Value.nilFunc], false, Bool.false⟩ .leaf .leaf)))) (.node 157 ⟨(@Go.TypeDesc.func #[43] #[3] Bool.false), 1, 8, [Go.Value.nilFunc], false, Bool.false⟩ (.node 154 ⟨(@Go.TypeDesc.array 20 22), 20, 160, [(@Go.Value.int Go.IntKind.u64 0), (@Go.Value.int Go.IntKind.u64 0), (@Go.Value.int Go.IntKind.u64 0), (@Go.Value.int Go.IntKind.u64 0), (@Go.Value.int Go.IntKind.u64 0), (@Go.Value.int Go.IntKind.u64 0), (@Go.Value.int Go.IntKind.u64 0), (@Go.Value.int Go.IntKind.u64 0), (@Go.Value.int Go.IntKind.u64 0), (@Go.Value.int Go.IntKind.u64 0), (@Go.Value.int Go.IntKind.u64 0), (@Go.Value.int Go.IntKind.u64 0), (@Go.Value.int Go.IntKind.u64 0), (@Go.Value.int Go.IntKind.u64 0), (@Go.Value.int Go.IntKind.u64 0), (@Go.Value.int Go.IntKind.u64 0), (@Go.Value.int Go.IntKind.u64 0), (@Go.Value.int Go.IntKind.u64 0), (@Go.Value.int Go.IntKind.u64 0), (@Go.Value.int Go.IntKind.u64 0)], true, Bool.true⟩ (.node 152 ⟨(@Go.TypeDesc.func #[3] #[3] Bool.false), 1, 8, [Go.Value.nilFunc], false, Bool.false⟩ .leaf (.node 153 ⟨(@Go.TypeDesc.func #[4] #[3] Bool.false), 1, 8, [Go.Value.nilFunc], false, Bool.false⟩ .leaf .leaf)) (.node 155 ⟨(@Go.TypeDesc.array 65 5), 65, 65, [(@Go.Value.int Go.IntKind.u8 0), (@Go.Value.int Go.IntKind.u8 0), (@Go.Value.int Go.IntKind.u8 0), (@Go.Value.int Go.IntKind.u8 0), (@Go.Value.int Go.IntKind.u8 0), (@Go.Value.int Go.IntKind.u8 0), (@Go.Value.int Go.IntKind.u8 0), (@Go.Value.int Go.IntKind.u8 0), (@Go.Value.int Go.IntKind.u8 0), (@Go.Value.int Go.IntKind.u8 0), (@Go.Value.int Go.IntKind.u8 0), (@Go.Value.int Go.IntKind.u8 0), (@Go.Value.int Go.IntKind.u8 0), (@Go.Value.int Go.IntKind.u8 0), (@Go.Value.int Go.IntKind.u8 0), (@Go.Value.int Go.IntKind.u8 0), (@Go.Value.int Go.IntKind.u8 0), (@Go.Value.int Go.IntKind.u8 0), (@Go.Value.int Go.IntKind.u8 0), (@Go.Value.int Go.IntKind.u8 0), (@Go.Value.int Go.IntKind.u8 0), (@Go.Value.int Go.IntKind.u8 0), (@Go.Value.int Go.IntKind.u8 0), (@Go.Value.int Go.IntKind.u8 0), (@Go.Value.int Go.IntKind.u8 0), (@Go.Value.int Go.IntKind.u8 0), (@Go.Value.int Go.IntKind.u8 0), (@Go.Value.int Go.IntKind.u8 0), (@Go.Value.int Go.IntKind.u8 0), (@Go.Value.int Go.IntKind.u8 0), (@Go.Value.int Go.IntKind.u8 0), (@Go.Value.int Go.IntKind.u8 0), (@Go.Value.int Go.IntKind.u8 0), (@Go.Value.int Go.IntKind.u8 0), (@Go.Value.int Go.IntKind.u8 0), (@Go.Value.int Go.IntKind.u8 0), (@Go.Value.int Go.IntKind.u8 0), (@Go.Value.int Go.IntKind.u8 0), (@Go.Value.int Go.IntKind.u8 0), (@Go.Value.int Go.IntKind.u8 0), (@Go.Value.int Go.IntKind.u8 0), (@Go.Value.int Go.IntKind.u8 0), (@Go.Value.int Go.IntKind.u8 0), (@Go.Value.int Go.IntKind.u8 0), (@Go.Value.int Go.IntKind.u8 0), (@Go.Value.int Go.IntKind.u8 0), (@Go.Value.int Go.IntKind.u8 0), (@Go.Value.int Go.IntKind.u8 0), (@Go.Value.int Go.IntKind.u8 0), (@Go.Value.int Go.IntKind.u8 0), (@Go.Value.int Go.IntKind.u8 0), (@Go.Value.int Go.IntKind.u8 0), (@Go.Value.int Go.IntKind.u8 0), (@Go.Value.int Go.IntKind.u8 0), (@Go.Value.int Go.IntKind.u8 0), (@Go.Value.int Go.IntKind.u8 0), (@Go.Value.int Go.IntKind.u8 0), (@Go.Value.int Go.IntKind.u8 0), (@Go.Value.int Go.IntKind.u8 0), (@Go.Value.int Go.IntKind.u8 0), (@Go.Value.int Go.IntKind.u8 0), (@Go.Value.int Go.IntKind.u8 0), (@Go.Value.int Go.IntKind.u8 0), (@Go.Value.int Go.IntKind.u8 0), (@Go.Value.int Go.IntKind.u8 0)], true, Bool.true⟩ .leaf (.node 156 ⟨(@Go.TypeDesc.func #[3] #[4] Bool.false), 1, 8, [Go.Value.nilFunc], false, Bool.false⟩ .leaf .leaf))) (.node 160 ⟨(@Go.TypeDesc.array 64 5), 64, 64, [(@Go.Value.int Go.IntKind.u8 0), (@Go.Value.int Go.IntKind.u8 0), (@Go.Value.int Go.IntKind.u8 0), (@Go.Value.int Go.IntKind.u8 0), (@Go.Value.int Go.IntKind.u8 0), (@Go.Value.int Go.IntKind.u8 0), (@Go.Value.int Go.IntKind.u8 0), (@Go.Value.int Go.IntKind.u8 0), (@Go.Value.int Go.IntKind.u8 0), (@Go.Value.int Go.IntKind.u8 0), (@Go.Value.int Go.IntKind.u8 0), (@Go.Value.int Go.IntKind.u8 0), (@Go.Value.int Go.IntKind.u8 0), (@Go.Value.int Go.IntKind.u8 0), (@Go.Value.int Go.IntKind.u8 0), (@Go.Value.int Go.IntKind.u8 0), (@Go.Value.int Go.IntKind.u8 0), (@Go.Value.int Go.IntKind.u8 0), (@Go.Value.int Go.IntKind.u8 0), (@Go.Value.int Go.IntKind.u8 0), (@Go.Value.int Go.IntKind.u8 0), (@Go.Value.int Go.IntKind.u8 0), (@Go.Value.int Go.IntKind.u8 0), (@Go.Value.int Go.IntKind.u8 0), (@Go.Value.int Go.IntKind.u8 0), (@Go.Value.int Go.IntKind.u8 0), (@Go.Value.int Go.IntKind.u8 0), (@Go.Value.int Go.IntKind.u8 0), (@Go.Value.int Go.IntKind.u8 0), (@Go.Value.int Go.IntKind.u8 0), (@Go.Value.int Go.IntKind.u8 0), (@Go.Value.int Go.IntKind.u8 0), (@Go.Value.int Go.IntKind.u8 0), (@Go.Value.int Go.IntKind.u8 0), (@Go.Value.int Go.IntKind.u8 0), (@Go.Value.int Go.IntKind.u8 0), (@Go.Value.int Go.IntKind.u8 0), (@Go.Value.int Go.IntKind.u8 0), (@Go.Value.int Go.IntKind.u8 0), (@Go.Value.int Go.IntKind.u8 0), (@Go.Value.int Go.IntKind.u8 0), (@Go.Value.int Go.IntKind.u8 0), (@Go.Value.int Go.IntKind.u8 0), (@Go.Value.int Go.IntKind.u8 0), (@Go.Value.int Go.IntKind.u8 0), (@Go.Value.int Go.IntKind.u8 0), (@Go.Value.int Go.IntKind.u8 0), (@Go.Value.int Go.IntKind.u8 0), (@Go.Value.int Go.IntKind.u8 0), (@Go.Value.int Go.IntKind.u8 0), (@Go.Value.int Go.IntKind.u8 0), (@Go.Value.int Go.IntKind.u8 0), (@Go.Value.int Go.IntKind.u8 0), (@Go.Value.int Go.IntKind.u8 0), (@Go.Value.int Go.IntKind.u8 0), (@Go.Value.int Go.IntKind.u8 0), (@Go.Value.int Go.IntKind.u8 0), (@Go.Value.int Go.IntKind.u8 0), (@Go.Value.int Go.IntKind.u8 0), (@Go.Value.int Go.IntKind.u8 0), (@Go.Value.int Go.IntKind.u8 0), (@Go.Value.int Go.IntKind.u8 0), (@Go.Value.int Go.IntKind.u8 0), (@Go.Value.int Go.IntKind.u8 0)], true, Bool.true⟩ (.node 158 ⟨(@Go.TypeDesc.func #[44] #[3] Bool.false), 1, 8, [Go.Value.nilFunc], false, Bool.false⟩ .leaf (.node 159 ⟨(@Go.TypeDesc.array 32 5), 32, 32, [(@Go.Value.int Go.IntKind.u8 0), (@Go.Value.int Go.IntKind.u8 0), (@Go.Value.int Go.IntKind.u8 0), (@Go.Value.int Go.IntKind.u8 0), (@Go.Value.int Go.IntKind.u8 0), (@Go.Value.int Go.IntKind.u8 0), (@Go.Value.int Go.IntKind.u8 0), (@Go.Value.int Go.IntKind.u8 0), (@Go.Value.int Go.IntKind.u8 0), (@Go.Value.int Go.IntKind.u8 0), (@Go.Value.int Go.IntKind.u8 0), (@Go.Value.int Go.IntKind.u8 0), (@Go.Value.int Go.IntKind.u8 0), (@Go.Value.int Go.IntKind.u8 0), (@Go.Value.int Go.IntKind.u8 0), (@Go.Value.int Go.IntKind.u8 0), (@Go.Value.int Go.IntKind.u8 0), (@Go.Value.int Go.IntKind.u8 0), (@Go.Value.int Go.IntKind.u8 0), (@Go.Value.int Go.IntKind.u8 0), (@Go.Value.int Go.IntKind.u8 0), (@Go.Value.int Go.IntKind.u8 0), (@Go.Value.int Go.IntKind.u8 0), (@Go.Value.int Go.IntKind.u8 0), (@Go.Value.int Go.IntKind.u8 0), (@Go.Value.int Go.IntKind.u8 0), (@Go.Value.int Go.IntKind.u8 0), (@Go.Value.int Go.IntKind.u8 0), (@Go.Value.int Go.IntKind.u8 0), (@Go.Value.int Go.IntKind.u8 0), (@Go.Value.int Go.IntKind.u8 0), (@Go.Value.int Go.IntKind.u8 0)], true, Bool.true⟩ .leaf .leaf)) (.node 161 ⟨(@Go.TypeDesc.struct #[(@Go.Field.mk "_interface" 17 0 Bool.false "" "runtime" 0), (@Go.Field.mk "concrete" 17 1 Bool.false "" "runtime" 8), (@Go.Field.mk "asserted" 17 2 Bool.false "" "runtime" 16), (@Go.Field.mk "missingMethod" 9 3 Bool.false "" "runtime" 24)]), 4, 40, [(@Go.Value.pointer none), (@Go.Value.pointer none), (@Go.Value.pointer none), (@Go.Value.string (@ByteArray.mk #[]))], true, Bool.true⟩ .leaf (.node 162 ⟨(@Go.TypeDesc.struct #[(@Go.Field.mk "_interface" 17 0 Bool.false "" "runtime" 0), (@Go.Field.mk "concrete" 17 1 Bool.false "" "runtime" 8), (@Go.Field.mk "asserted" 17 2 Bool.false "" "runtime" 16), (@Go.Field.mk "missingMethod" 9 3 Bool.false "" "runtime" 24)]), 4, 40, [(@Go.Value.pointer none), (@Go.Value.pointer none), (@Go.Value.pointer none), (@Go.Value.string (@ByteArray.mk #[]))], true, Bool.true⟩ .leaf .leaf))))) (.node 175 ⟨(@Go.TypeDesc.struct #[(@Go.Field.mk "Method" 9 0 Bool.false "" "" 0), (@Go.Field.mk "Kind" 116 1 Bool.false "" "" 16)]), 2, 24, [(@Go.Value.string (@ByteArray.mk #[])), (@Go.Value.int Go.IntKind.u8 0)], true, Bool.true⟩ (.node 169 ⟨(@Go.TypeDesc.int Go.IntKind.i32), 1, 4, [(@Go.Value.int Go.IntKind.i32 0)], false, Bool.true⟩ (.node 166 ⟨(@Go.TypeDesc.func #[] #[17] Bool.false), 1, 8, [Go.Value.nilFunc], false, Bool.false⟩ (.node 164 ⟨(@Go.TypeDesc.struct #[(@Go.Field.mk "_" 163 0 Bool.false "" "runtime" 0)]), 0, 0, [], true, Bool.true⟩ .leaf (.node 165 ⟨(@Go.TypeDesc.struct #[(@Go.Field.mk "_" 163 0 Bool.false "" "runtime" 0)]), 0, 0, [], true, Bool.true⟩ .leaf .leaf)) (.node 167 ⟨(@Go.TypeDesc.int Go.IntKind.u8), 1, 1, [(@Go.Value.int Go.IntKind.u8 0)], false, Bool.true⟩ .leaf (.node 168 ⟨(@Go.TypeDesc.func #[108, 108] #[4] Bool.false), 1, 8, [Go.Value.nilFunc], false, Bool.false⟩ .leaf .leaf))) (.node 172 ⟨(@Go.TypeDesc.struct #[(@Go.Field.mk "Size_" 12 0 Bool.false "" "" 0), (@Go.Field.mk "PtrBytes" 12 1 Bool.false "" "" 8), (@Go.Field.mk "Hash" 44 2 Bool.false "" "" 16), (@Go.Field.mk "TFlag" 167 3 Bool.false "" "" 20), (@Go.Field.mk "Align_" 5 4 Bool.false "" "" 21), (@Go.Field.mk "FieldAlign_" 5 5 Bool.false "" "" 22), (@Go.Field.mk "Kind_" 116 6 Bool.false "" "" 23), (@Go.Field.mk "Equal" 168 7 Bool.false "" "" 24), (@Go.Field.mk "GCData" 123 8 Bool.false "" "" 32), (@Go.Field.mk "Str" 169 9 Bool.false "" "" 40), (@Go.Field.mk "PtrToThis" 170 10 Bool.false "" "" 44)]), 11, 48, [(@Go.Value.int Go.IntKind.u64 0), (@Go.Value.int Go.IntKind.u64 0), (@Go.Value.int Go.IntKind.u32 0), (@Go.Value.int Go.IntKind.u8 0), (@Go.Value.int Go.IntKind.u8 0), (@Go.Value.int Go.IntKind.u8 0), (@Go.Value.int Go.IntKind.u8 0), Go.Value.nilFunc, (@Go.Value.pointer none), (@Go.Value.int Go.IntKind.i32 0), (@Go.Value.int Go.IntKind.i32 0)], true, Bool.false⟩ (.node 170 ⟨(@Go.TypeDesc.int Go.IntKind.i32), 1, 4, [(@Go.Value.int Go.IntKind.i32 0)], false, Bool.true⟩ .leaf (.node 171 ⟨(@Go.TypeDesc.struct #[(@Go.Field.mk "Size_" 12 0 Bool.false "" "" 0), (@Go.Field.mk "PtrBytes" 12 1 Bool.false "" "" 8), (@Go.Field.mk "Hash" 44 2 Bool.false "" "" 16), (@Go.Field.mk "TFlag" 167 3 Bool.false "" "" 20), (@Go.Field.mk "Align_" 5 4 Bool.false "" "" 21), (@Go.Field.mk "FieldAlign_" 5 5 Bool.false "" "" 22), (@Go.Field.mk "Kind_" 116 6 Bool.false "" "" 23), (@Go.Field.mk "Equal" 168 7 Bool.false "" "" 24), (@Go.Field.mk "GCData" 123 8 Bool.false "" "" 32), (@Go.Field.mk "Str" 169 9 Bool.false "" "" 40), (@Go.Field.mk "PtrToThis" 170 10 Bool.false "" "" 44)]), 11, 48, [(@Go.Value.int Go.IntKind.u64 0), (@Go.Value.int Go.IntKind.u64 0), (@Go.Value.int Go.IntKind.u32 0), (@Go.Value.int Go.IntKind.u8 0), (@Go.Value.int Go.IntKind.u8 0), (@Go.Value.int Go.IntKind.u8 0), (@Go.Value.int Go.IntKind.u8 0), Go.Value.nilFunc, (@Go.Value.pointer none), (@Go.Value.int Go.IntKind.i32 0), (@Go.Value.int Go.IntKind.i32 0)], true, Bool.false⟩ .leaf .leaf)) (.node 173 ⟨(@Go.TypeDesc.func #[] #[12] Bool.false), 1, 8, [Go.Value.nilFunc], false, Bool.false⟩ .leaf (.node 174 ⟨(@Go.TypeDesc.func #[] #[177] Bool.false), 1, 8, [Go.Value.nilFunc], false, Bool.false⟩ .leaf .leaf)))) (.node 181 ⟨(@Go.TypeDesc.struct #[(@Go.Field.mk "PkgPath" 169 0 Bool.false "" "" 0), (@Go.Field.mk "Mcount" 179 1 Bool.false "" "" 4), (@Go.Field.mk "Xcount" 179 2 Bool.false "" "" 6), (@Go.Field.mk "Moff" 44 3 Bool.false "" "" 8), (@Go.Field.mk "_" 44 4 Bool.false "" "internal/abi" 12)]), 5, 16, [(@Go.Value.int Go.IntKind.i32 0), (@Go.Value.int Go.IntKind.u16 0), (@Go.Value.int Go.IntKind.u16 0), (@Go.Value.int Go.IntKind.u32 0), (@Go.Value.int Go.IntKind.u32 0)], true, Bool.true⟩ (.node 178 ⟨(@Go.TypeDesc.func #[] #[182] Bool.false), 1, 8, [Go.Value.nilFunc], false, Bool.false⟩ (.node 176 ⟨(@Go.TypeDesc.struct #[(@Go.Field.mk "Method" 9 0 Bool.false "" "" 0), (@Go.Field.mk "Kind" 116 1 Bool.false "" "" 16)]), 2, 24, [(@Go.Value.string (@ByteArray.mk #[])), (@Go.Value.int Go.IntKind.u8 0)], true, Bool.true⟩ .leaf (.node 177 ⟨(@Go.TypeDesc.pointer 181), 1, 8, [(@Go.Value.pointer none)], false, Bool.true⟩ .leaf .leaf)) (.node 179 ⟨(@Go.TypeDesc.int Go.IntKind.u16), 1, 2, [(@Go.Value.int Go.IntKind.u16 0)], false, Bool.true⟩ .leaf (.node 180 ⟨(@Go.TypeDesc.struct #[(@Go.Field.mk "PkgPath" 169 0 Bool.false "" "" 0), (@Go.Field.mk "Mcount" 179 1 Bool.false "" "" 4), (@Go.Field.mk "Xcount" 179 2 Bool.false "" "" 6), (@Go.Field.mk "Moff" 44 3 Bool.false "" "" 8), (@Go.Field.mk "_" 44 4 Bool.false "" "internal/abi" 12)]), 5, 16, [(@Go.Value.int Go.IntKind.i32 0), (@Go.Value.int Go.IntKind.u16 0), (@Go.Value.int Go.IntKind.u16 0), (@Go.Value.int Go.IntKind.u32 0), (@Go.Value.int Go.IntKind.u32 0)], true, Bool.true⟩ .leaf .leaf))) (.node 184 ⟨(@Go.TypeDesc.struct #[(@Go.Field.mk "Name" 169 0 Bool.false "" "" 0), (@Go.Field.mk "Mtyp" 170 1 Bool.false "" "" 4), (@Go.Field.mk "Ifn" 183 2 Bool.false "" "" 8), (@Go.Field.mk "Tfn" 183 3 Bool.false "" "" 12)]), 4, 16, [(@Go.Value.int Go.IntKind.i32 0), (@Go.Value.int Go.IntKind.i32 0), (@Go.Value.int Go.IntKind.i32 0), (@Go.Value.int Go.IntKind.i32 0)], true, Bool.true⟩ (.node 182 ⟨(@Go.TypeDesc.slice 185), 1, 24, [(@Go.Value.slice none 0 0)], false, Bool.false⟩ .leaf (.node 183 ⟨(@Go.TypeDesc.int Go.IntKind.i32), 1, 4, [(@Go.Value.int Go.IntKind.i32 0)], false, Bool.true⟩ .leaf .leaf)) (.node 185 ⟨(@Go.TypeDesc.struct #[(@Go.Field.mk "Name" 169 0 Bool.false "" "" 0), (@Go.Field.mk "Mtyp" 170 1 Bool.false "" "" 4), (@Go.Field.mk "Ifn" 183 2 Bool.false "" "" 8), (@Go.Field.mk "Tfn" 183 3 Bool.false "" "" 12)]), 4, 16, [(@Go.Value.int Go.IntKind.i32 0), (@Go.Value.int Go.IntKind.i32 0), (@Go.Value.int Go.IntKind.i32 0), (@Go.Value.int Go.IntKind.i32 0)], true, Bool.true⟩ .leaf (.node 186 ⟨(@Go.TypeDesc.pointer 48), 1, 8, [(@Go.Value.pointer none)], false, Bool.true⟩ .leaf .leaf))))))))
theorem tab_ok : tab.ok Tryd.prog := ⟨ti93, ⟨ti46, ⟨ti22, ⟨ti10, ⟨ti4, ⟨ti1, ⟨ti0, trivial, trivial⟩, ⟨ti2, trivial, ⟨ti3, trivial, trivial⟩⟩⟩, ⟨ti7, ⟨ti5, trivial, ⟨ti6, trivial, trivial⟩⟩, ⟨ti8, trivial, ⟨ti9, trivial, trivial⟩⟩⟩⟩, ⟨ti16, ⟨ti13, ⟨ti11, trivial, ⟨ti12, trivial, trivial⟩⟩, ⟨ti14, trivial, ⟨ti15, trivial, trivial⟩⟩⟩, ⟨ti19, ⟨ti17, trivial, ⟨ti18, trivial, trivial⟩⟩, ⟨ti20, trivial, ⟨ti21, trivial, trivial⟩⟩⟩⟩⟩, ⟨ti34, ⟨ti28, ⟨ti25, ⟨ti23, trivial, ⟨ti24, trivial, trivial⟩⟩, ⟨ti26, trivial, ⟨ti27, trivial, trivial⟩⟩⟩, ⟨ti31, ⟨ti29, trivial, ⟨ti30, trivial, trivial⟩⟩, ⟨ti32, trivial, ⟨ti33, trivial, trivial⟩⟩⟩⟩, ⟨ti40, ⟨ti37, ⟨ti35, trivial, ⟨ti36, trivial, trivial⟩⟩, ⟨ti38, trivial, ⟨ti39, trivial, trivial⟩⟩⟩, ⟨ti43, ⟨ti41, trivial, ⟨ti42, trivial, trivial⟩⟩, ⟨ti44, trivial, ⟨ti45, trivial, trivial⟩⟩⟩⟩⟩⟩, ⟨ti69, ⟨ti57, ⟨ti51, ⟨ti48, ⟨ti47, trivial, trivial⟩, ⟨ti49, trivial, ⟨ti50, trivial, trivial⟩⟩⟩, ⟨ti54, ⟨ti52, trivial, ⟨ti53, trivial, trivial⟩⟩, ⟨ti55, trivial, ⟨ti56, trivial, trivial⟩⟩⟩⟩, ⟨ti63, ⟨ti60, ⟨ti58, trivial, ⟨ti59, trivial, trivial⟩⟩, ⟨ti61, trivial, ⟨ti62, trivial, trivial⟩⟩⟩, ⟨ti66, ⟨ti64, trivial, ⟨ti65, trivial, trivial⟩⟩, ⟨ti67, trivial, ⟨ti68, trivial, trivial⟩⟩⟩⟩⟩, ⟨ti81, ⟨ti75, ⟨ti72, ⟨ti70, trivial, ⟨ti71, trivial, trivial⟩⟩, ⟨ti73, trivial, ⟨ti74, trivial, trivial⟩⟩⟩, ⟨ti78, ⟨ti76, trivial, ⟨ti77, trivial, trivial⟩⟩, ⟨ti79, trivial, ⟨ti80, trivial, trivial⟩⟩⟩⟩, ⟨ti87, ⟨ti84, ⟨ti82, trivial, ⟨ti83, trivial, trivial⟩⟩, ⟨ti85, trivial, ⟨ti86, trivial, trivial⟩⟩⟩, ⟨ti90, ⟨ti88, trivial, ⟨ti89, trivial, trivial⟩⟩, ⟨ti91, trivial, ⟨ti92, trivial, trivial⟩⟩⟩⟩⟩⟩⟩, ⟨ti140, ⟨ti116, ⟨ti104, ⟨ti98, ⟨ti95, ⟨ti94, trivial, trivial⟩, ⟨ti96, trivial, ⟨ti97, trivial, trivial⟩⟩⟩, ⟨ti101, ⟨ti99, trivial, ⟨ti100, trivial, trivial⟩⟩, ⟨ti102, trivial, ⟨ti103, trivial, trivial⟩⟩⟩⟩, ⟨ti110, ⟨ti107, ⟨ti105, trivial, ⟨ti106, trivial, trivial⟩⟩, ⟨ti108, trivial, ⟨ti109, trivial, trivial⟩⟩⟩, ⟨ti113, ⟨ti111, trivial, ⟨ti112, trivial, trivial⟩⟩, ⟨ti114, trivial, ⟨ti115, trivial, trivial⟩⟩⟩⟩⟩, ⟨ti128, ⟨ti122, ⟨ti119, ⟨ti117, trivial, ⟨ti118, trivial, trivial⟩⟩, ⟨ti120, trivial, ⟨ti121, trivial, trivial⟩⟩⟩, ⟨ti125, ⟨ti123, trivial, ⟨ti124, trivial, trivial⟩⟩, ⟨ti126, trivial, ⟨ti127, trivial, trivial⟩⟩⟩⟩, ⟨ti134, ⟨ti131, ⟨ti129, trivial, ⟨ti130, trivial, trivial⟩⟩, ⟨ti132, trivial, ⟨ti133, trivial, trivial⟩⟩⟩, ⟨ti137, ⟨ti135, trivial, ⟨ti136, trivial, trivial⟩⟩, ⟨ti138, trivial, ⟨ti139, trivial, trivial⟩⟩⟩⟩⟩⟩, ⟨ti163, ⟨ti151, ⟨ti145, ⟨ti142, ⟨ti141, trivial, trivial⟩, ⟨ti143, trivial, ⟨ti144, trivial, trivial⟩⟩⟩, ⟨ti148, ⟨ti146, trivial, ⟨ti147, trivial, trivial⟩⟩, ⟨ti149, trivial, ⟨ti150, trivial, trivial⟩⟩⟩⟩, ⟨ti157, ⟨ti154, ⟨ti152, trivial, ⟨ti153, trivial, trivial⟩⟩, ⟨ti155, trivial, ⟨ti156, trivial, trivial⟩⟩⟩, ⟨ti160, ⟨ti158, trivial, ⟨ti159, trivial, trivial⟩⟩, ⟨ti161, trivial, ⟨ti162, trivial, trivial⟩⟩⟩⟩⟩, ⟨ti175, ⟨ti169, ⟨ti166, ⟨ti164, trivial, ⟨ti165, trivial, trivial⟩⟩, ⟨ti167, trivial, ⟨ti168, trivial, trivial⟩⟩⟩, ⟨ti172, ⟨ti170, trivial, ⟨ti171, trivial, trivial⟩⟩, ⟨ti173, trivial, ⟨ti174, trivial, trivial⟩⟩⟩⟩, ⟨ti181, ⟨ti178, ⟨ti176, trivial, ⟨ti177, trivial, trivial⟩⟩, ⟨ti179, trivial, ⟨ti180, trivial, trivial⟩⟩⟩, ⟨ti184, ⟨ti182, trivial, ⟨ti183, trivial, trivial⟩⟩, ⟨ti185, trivial, ⟨ti186, trivial, trivial⟩⟩⟩⟩⟩⟩⟩⟩
noncomputable def G : Ctx := ⟨Tryd.prog, tab, tab_ok, by kernel_rfl⟩
end Go.Proofs.YtkoakmaihcheaacDoor
/- Contracts of functions of the given program, and plain laws on what they compute: parts of the proofs of laws. -/

namespace Go.Proofs.YtkoakmaihcheaacDoor
open Go Go.GL

def widest : Int := 1152921504606846975
/-- a number as bytes -/
def numB (n : Nat) : List UInt8 := if n < 128 then [UInt8.ofNat n] else UInt8.ofNat (n % 128 + 128) :: numB (n / 128)
termination_by n
decreasing_by omega
theorem numB_lt {n : Nat} (h : n < 128) : numB n = [UInt8.ofNat n] := by rw [numB, if_pos h]
theorem numB_ge {n : Nat} (h : ¬ n < 128) : numB n = UInt8.ofNat (n % 128 + 128) :: numB (n / 128) := by rw [numB, if_neg h]
theorem numB_len : ∀ (k n : Nat), n < 128 ^ (k + 1) → (numB n).length ≤ k + 1
  | 0, n, h => by rw [numB_lt (by simpa using h)]; simp
  | k + 1, n, h => by
    by_cases hn : n < 128
    · rw [numB_lt hn]; simp
    · rw [numB_ge hn, List.length_cons]
      have := numB_len k (n / 128) (by rw [Nat.div_lt_iff_lt_mul (by omega), ← Nat.pow_succ]; exact h)
      omega
def clampN (x : Int) : Nat := (max 0 (min x widest)).toNat
theorem clamp_le (x : Int) : (clampN x : Int) ≤ widest := by unfold clampN widest; omega
theorem numB_nine (x : Int) : (numB (clampN x)).length ≤ 9 := numB_len 8 _ (by have := clamp_le x; unfold widest at this; omega)
theorem wrap_u8 (y : Nat) : IntKind.u8.wrap (y : Int) = ((y % 256 : Nat) : Int) := by
  simp [IntKind.wrap, IntKind.signed, IntKind.bits]
set_option maxRecDepth 10000 in
theorem or_small : ∀ z : Fin 256, bitsV .or .u8 (z.val : Int) 128 = ((z.val % 128 + 128 : Nat) : Int) := by decide
theorem or_byte (y : Nat) : Value.int .u8 (bitsV .or .u8 (IntKind.u8.wrap (y : Int)) 128) = byteV (UInt8.ofNat (y % 128 + 128)) := by
  unfold byteV
  rw [wrap_u8]
  have := or_small ⟨y % 256, by omega⟩
  simp only at this
  rw [this]
  congr 1
  rw [UInt8.toNat_ofNat']
  omega
theorem low_byte (y : Nat) (h : y < 128) : Value.int .u8 (y : Int) = byteV (UInt8.ofNat y) := by
  unfold byteV
  congr 1
  rw [UInt8.toNat_ofNat']
  omega
theorem shr7 (y : Nat) : shrV .i64 (y : Int) 7 = ((y / 128 : Nat) : Int) := by
  unfold shrV
  simp [IntKind.bits]
  rw [Int.fdiv_eq_ediv_of_nonneg _ (by omega)]
def NumPost (n : Nat) (l l2 : List UInt8) (v : Value) (M : List Assn) : Prop := ∃ a' cap', v = .slice a' (n + l2.length) cap' ∧ M = [ownS a' (n + l2.length) cap' 5 1 ((l ++ l2).map byteV)]

set_option maxHeartbeats 1000000 in
set_option maxRecDepth 10000 in
theorem number_ok (a : Option Addr) (n cap : Nat) (l : List UInt8) (x : Int) (hn : n < 1000000) :
    Triple G 23 [.slice a n cap, .int .i64 x] [ownS a n cap 5 1 (l.map byteV)] (NumPost n l (numB (clampN x))) := by
  refine Triple.enter Tryd.func23 rfl (by decide) rfl Tryd.ntmps23 rfl (fun F => ?_)
  repeat (first | refine GO ?_ | refine NW fun _ => ?_)
  have hcl : (if (0 : Int) < (if (1152921504606846975 : Int) < x then (1152921504606846975 : Int) else x) then (if (1152921504606846975 : Int) < x then (1152921504606846975 : Int) else x) else 0) = (clampN x : Int) := by
    unfold clampN widest
    split <;> split <;> omega
  rw [hcl]
  have hc1 := clamp_le x
  unfold widest at hc1
  have h9 := numB_nine x
  generalize clampN x = y0 at *
  unfold NumPost
  generalize hfin : l ++ numB y0 = fin
  have hfl : n + (numB y0).length = n + (fin.length - l.length) := by rw [← hfin, List.length_append]; omega
  refine WC.fact (Ent.len (Ent.own (a := a) (n := n) (cap := cap) (T := 5) (size := 1) (cs := l.map byteV) MM)) (fun hlen => ?_)
  have hln : l.length = n := by simpa using hlen
  refine WC.loop (σ := Option Addr × Nat × Nat × List UInt8 × Nat) (fun s => s.2.1 = s.2.2.2.1.length ∧ s.2.2.2.1 ++ numB s.2.2.2.2 = fin ∧ s.2.2.2.2 ≤ y0)
    (fun s => [(0, .val (.slice s.1 s.2.1 s.2.2.1)), (1, .val (.int .i64 s.2.2.2.2))])
    (fun s => [ownS s.1 s.2.1 s.2.2.1 5 1 (s.2.2.2.1.map byteV), F]) (fun s => s.2.2.2.2) (a, n, cap, l, y0) ⟨hln.symm, hfin, Nat.le_refl _⟩ ⟨rfl, rfl, trivial⟩ II ?_
  rintro ⟨a1, n1, cap1, l1, y⟩ ⟨hn1, hl1, hy⟩
  dsimp only at hn1 hl1 hy ⊢
  have hlen1 : l1.length + (numB y).length = fin.length := by rw [← hl1, List.length_append]
  have hlen2 : l.length + (numB y0).length = fin.length := by rw [← hfin, List.length_append]
  by_cases hge : 128 ≤ y
  · rw [numB_ge (by omega)] at hl1
    repeat (first | refine GD ?_ | refine NW fun _ => ?_)
    rw [or_byte y]
    repeat (first | refine GD ?_ | refine NW fun _ => ?_)
    refine WL.step rfl (OP.append rfl rfl rfl rfl rfl rfl rfl rfl rfl P1 (Ent.own MM) rfl (by omega) (by omega) rfl rfl (fun a2 cap2 => ?_))
    repeat (first | refine GD ?_ | refine NW fun _ => ?_)
    rw [shr7 y]
    exact ⟨(a2, n1 + 1, cap2, l1 ++ [UInt8.ofNat (y % 128 + 128)], y / 128), ⟨by simp [hn1], by simp only []; rw [List.append_assoc]; exact hl1, by dsimp only; omega⟩, by dsimp only; omega, ⟨rfl, rfl, trivial⟩, by rw [List.map_append]; exact II⟩
  · rw [numB_lt (by omega)] at hl1
    repeat (first | refine GD ?_ | refine NW fun _ => ?_)
    rw [low_byte y (by omega)]
    repeat (first | refine GD ?_ | refine NW fun _ => ?_)
    refine WL.step rfl (OP.append rfl rfl rfl rfl rfl rfl rfl rfl rfl P1 (Ent.own MM) rfl (by omega) (by omega) rfl rfl (fun a2 cap2 => ?_))
    repeat (first | refine GD ?_ | refine NW fun _ => ?_)
    have e : n + (numB y0).length = n1 + 1 := by
      have : fin.length = n1 + 1 := by rw [← hl1, List.length_append, List.length_singleton, hn1]
      omega
    refine ret1 rfl ⟨[_], ⟨a2, cap2, by rw [e], by rw [e, ← hl1, List.map_append]⟩, II⟩
end Go.Proofs.YtkoakmaihcheaacDoor
/- Contracts of functions of the given program, and plain laws on what they compute: parts of the proofs of laws. -/

namespace Go.Proofs.YtkoakmaihcheaacDoor
open Go Go.GL

abbrev W32 := BitVec 32
def u32V (c : W32) : Value := .int .u32 (c.toNat : Int)
def tbl : List W32 := [0#32, 274646895#32, 549293790#32, 820201905#32, 1098587580#32, 1361435347#32, 1640403810#32, 1905808397#32, 2197175160#32, 2460548119#32, 2722870694#32, 2987750089#32, 3280807620#32, 3553878443#32, 3811616794#32, 4084100981#32]
def half (c : W32) : W32 := (c >>> 4) ^^^ (tbl.getD (c &&& 15#32).toNat 0)
def crcStep (c : W32) (x : UInt8) : W32 := half (half (c ^^^ BitVec.ofNat 32 x.toNat))
def crcF (c : W32) (l : List UInt8) : W32 := l.foldl crcStep c
def crc (l : List UInt8) : W32 := ~~~ (crcF (BitVec.allOnes 32) l)
theorem ofInt_u32 (c : W32) : BitVec.ofInt IntKind.u32.bits (c.toNat : Int) = c := by
  show BitVec.ofInt 32 (c.toNat : Int) = c
  rw [BitVec.ofInt_natCast, BitVec.ofNat_toNat, BitVec.setWidth_eq]
theorem wrap_u32 (c : W32) : IntKind.u32.wrap (c.toNat : Int) = (c.toNat : Int) := wrap_fit (k := .u32) (by have := c.isLt; unfold Fit; omega)
theorem xor_u32 (c d : W32) : bitsV .xor .u32 (c.toNat : Int) (d.toNat : Int) = ((c ^^^ d).toNat : Int) := by
  unfold bitsV
  simp only [ofInt_u32]
  exact wrap_u32 (c ^^^ d)
theorem and_u32 (c d : W32) : bitsV .and .u32 (c.toNat : Int) (d.toNat : Int) = ((c &&& d).toNat : Int) := by
  unfold bitsV
  simp only [ofInt_u32]
  exact wrap_u32 (c &&& d)
theorem shr_u32 (c : W32) (n : Nat) (hn : n ≤ 32) : shrV .u32 (c.toNat : Int) (n : Int) = ((c >>> n).toNat : Int) := by
  unfold shrV
  rw [Int.toNat_natCast, show min n IntKind.u32.bits = n from Nat.min_eq_left hn, Int.fdiv_eq_ediv_of_nonneg _ (by exact Int.le_of_lt (Int.pow_pos (by decide))), BitVec.toNat_ushiftRight, Nat.shiftRight_eq_div_pow]
  rw [Int.natCast_ediv]
  norm_cast
def tblV : List Value := [.int .u32 0, .int .u32 274646895, .int .u32 549293790, .int .u32 820201905, .int .u32 1098587580, .int .u32 1361435347, .int .u32 1640403810, .int .u32 1905808397, .int .u32 2197175160, .int .u32 2460548119, .int .u32 2722870694, .int .u32 2987750089, .int .u32 3280807620, .int .u32 3553878443, .int .u32 3811616794, .int .u32 4084100981]
theorem tbl_cells (i : Nat) (h : i < 16) : tblV[i]? = some (.int .u32 ((tbl.getD i 0).toNat : Int)) := by
  obtain rfl | rfl | rfl | rfl | rfl | rfl | rfl | rfl | rfl | rfl | rfl | rfl | rfl | rfl | rfl | rfl : i = 0 ∨ i = 1 ∨ i = 2 ∨ i = 3 ∨ i = 4 ∨ i = 5 ∨ i = 6 ∨ i = 7 ∨ i = 8 ∨ i = 9 ∨ i = 10 ∨ i = 11 ∨ i = 12 ∨ i = 13 ∨ i = 14 ∨ i = 15 := by omega
  all_goals rfl
set_option maxHeartbeats 1000000 in
set_option maxRecDepth 10000 in
theorem half_ro (c : W32) : RO G 77 [u32V c] (fun _ => True) (u32V (half c)) := by
  refine RO.enter Tryd.func77 rfl (by decide) rfl Tryd.ntmps77 rfl (fun A hu hA => ?_) (fun _ _ _ h => h)
  unfold u32V
  repeat (first | refine GO ?_ | refine NW fun _ => ?_)
  have ha := and_u32 c 15#32
  rw [show (((15#32 : W32).toNat : Nat) : Int) = 15 from rfl] at ha
  have hlt : (c &&& 15#32).toNat < 16 := by
    rw [BitVec.toNat_and]
    exact Nat.lt_of_le_of_lt Nat.and_le_right (by decide)
  have hs := shr_u32 c 4 (by decide)
  rw [show (((4 : Nat) : Int)) = 4 from rfl] at hs
  rw [ha, hs]
  repeat (first | refine GO ?_ | refine NW fun _ => ?_)
  refine WL.step rfl (OP.load1 (v := .int .u32 ((tbl.getD (c &&& 15#32).toNat 0).toNat : Int)) rfl rfl rfl rfl (Ent.blk (c := tblV) MM (by simpa using tbl_cells _ hlt)) rfl rfl ?_)
  repeat (first | refine GO ?_ | refine NW fun _ => ?_)
  rw [xor_u32]
  exact ret1 rfl ⟨rfl, MM⟩
set_option maxHeartbeats 1000000 in
set_option maxRecDepth 10000 in
theorem of_ro (a : Option Addr) (n cap : Nat) (l : List UInt8) (hn : n = l.length) (hs : n < 1000000) : RO G 68 [.slice a n cap] (readS a n 1 (l.map byteV)) (u32V (crc l)) := by
  refine RO.enter Tryd.func68 rfl (by decide) rfl Tryd.ntmps68 rfl (fun A hu hA => ?_) (up_readS _ _ _ _)
  have hE : ∀ {L}, A ∈ L → Ent L (readS a n 1 (l.map byteV)) := fun m => Ent.mem m hu hA
  repeat (first | refine GO ?_ | refine NW fun _ => ?_)
  refine WC.loop (σ := Nat) (fun k => k ≤ n)
    (fun k => [(3, .val (u32V (crcF (BitVec.allOnes 32) (l.take k)))), (6, .val (.slice a n cap)), (7, .val (.int .i64 n)), (8, .val (.int .i64 k))])
    (fun k => [A]) (fun k => n - k) 0 (Nat.zero_le _) ⟨rfl, rfl, rfl, rfl, trivial⟩ (Imp.refl _) ?_
  rintro k hk
  by_cases hlt : k < n
  rotate_left
  · have : l.take k = l := List.take_of_length_le (by omega)
    rw [this]
    unfold u32V
    repeat (first | refine GD ?_ | refine NW fun _ => ?_)
    have hx := xor_u32 (BitVec.allOnes 32) (crcF (BitVec.allOnes 32) l)
    have e : (if IntKind.u32.signed = true then (-1 : Int) else IntKind.u32.max) = ((BitVec.allOnes 32).toNat : Int) := rfl
    rw [e, hx, BitVec.allOnes_xor]
    exact ret1 rfl ⟨rfl, MM⟩
  have hl1 : k < l.length := by omega
  have hsn : crcF (BitVec.allOnes 32) (l.take (k + 1)) = crcStep (crcF (BitVec.allOnes 32) (l.take k)) l[k] := by
    unfold crcF
    rw [List.take_succ_eq_append_getElem hl1, List.foldl_append]
    rfl
  generalize crcF (BitVec.allOnes 32) (l.take k) = c at *
  unfold u32V
  repeat (first | refine GD ?_ | refine NW fun _ => ?_)
  refine WL.fact (Ent.some (hE MM) (by omega)) ?_
  rintro ⟨b, off, rfl⟩
  repeat (first | refine GD ?_ | refine NW fun _ => ?_)
  refine WL.step rfl (OP.load1 (v := byteV l[k]) rfl rfl rfl rfl (Ent.elem (i := k * 1) (hE MM) rfl (by simp [hl1])) rfl rfl ?_)
  generalize l[k] = x at *
  have hx8 : x.toNat < 256 := x.toNat_lt
  unfold byteV
  repeat (first | refine GD ?_ | refine NW fun _ => ?_)
  have hx := xor_u32 c (BitVec.ofNat 32 x.toNat)
  have hb : ((BitVec.ofNat 32 x.toNat).toNat : Int) = x.toNat := by rw [BitVec.toNat_ofNat]; omega
  rw [hb] at hx
  rw [hx]
  refine WL.step rfl (OP.callRO rfl rfl (half_ro _) (fun _ _ => trivial) rfl rfl ?_)
  repeat (first | refine GD ?_ | refine NW fun _ => ?_)
  refine WL.step rfl (OP.callRO rfl rfl (half_ro _) (fun _ _ => trivial) rfl rfl ?_)
  repeat (first | refine GD ?_ | refine NW fun _ => ?_)
  exact ⟨k + 1, by omega, by omega, ⟨by rw [hsn]; rfl, rfl, rfl, rfl, trivial⟩, Imp.refl _⟩
def le4 (c : W32) : List UInt8 := [UInt8.ofNat (c.toNat % 256), UInt8.ofNat ((c >>> 8).toNat % 256), UInt8.ofNat ((c >>> 16).toNat % 256), UInt8.ofNat ((c >>> 24).toNat % 256)]
def tailM (l : List UInt8) : List UInt8 := le4 (crc l)
theorem byte_u32 (c : W32) : Value.int .u8 (IntKind.u8.wrap (c.toNat : Int)) = byteV (UInt8.ofNat (c.toNat % 256)) := by
  unfold byteV
  rw [wrap_u8]
  congr 1
  rw [UInt8.toNat_ofNat']
  omega
def BytesNew (l : List UInt8) (v : Value) (E : List Assn) : Prop := ∃ a cap, v = .slice a l.length cap ∧ E = [ownS a l.length cap 5 1 (l.map byteV)]
set_option maxHeartbeats 1000000 in
set_option maxRecDepth 10000 in
theorem tail_ok (a : Option Addr) (n cap : Nat) (l : List UInt8) (hn : n = l.length) (hs : n < 1000000) : RT G 47 [.slice a n cap] (readS a n 1 (l.map byteV)) (BytesNew (tailM l)) := by
  refine RT.enter Tryd.func47 rfl (by decide) rfl Tryd.ntmps47 rfl (fun A hu hA => ?_)
  have hE : ∀ {L}, A ∈ L → Ent L (readS a n 1 (l.map byteV)) := fun m => Ent.mem m hu hA
  repeat (first | refine GO ?_ | refine NW fun _ => ?_)
  refine WL.step rfl (OP.callRO rfl rfl (of_ro a n cap l hn hs) (hE MM) rfl rfl ?_)
  unfold tailM
  generalize crc l = c
  unfold u32V
  have h8 := shr_u32 c 8 (by decide)
  have h16 := shr_u32 c 16 (by decide)
  have h24 := shr_u32 c 24 (by decide)
  rw [show (((8 : Nat) : Int)) = 8 from rfl] at h8
  rw [show (((16 : Nat) : Int)) = 16 from rfl] at h16
  rw [show (((24 : Nat) : Int)) = 24 from rfl] at h24
  repeat (first | refine GO ?_ | refine NW fun _ => ?_)
  rw [h8, h16, h24, byte_u32, byte_u32, byte_u32, byte_u32]
  exact ret1 rfl ⟨[_], ⟨_, _, rfl, rfl⟩, II⟩
end Go.Proofs.YtkoakmaihcheaacDoor
/- Contracts of functions of the given program, and plain laws on what they compute: parts of the proofs of laws. -/

namespace Go.Proofs.YtkoakmaihcheaacDoor
open Go Go.GL

/-- a fault: its error's value, and its block -/
def Fault (op : ByteArray) (at_ c : Int) (v : Value) (M : List Assn) : Prop := ∃ b, v = .iface 89 (.pointer (some ⟨b, 0, none⟩)) ∧ M = [blk b [.string op, .int .i64 at_, .iface 29 (.int .i64 c)] 91]

set_option maxRecDepth 10000 in
theorem wrap_ok (op : ByteArray) (at_ c : Int) (h : c ≠ 0) : Triple G 22 [.string op, .int .i64 at_, .iface 29 (.int .i64 c)] [] (Fault op at_ c) := by
  refine Triple.enter Tryd.func22 rfl (by decide) rfl Tryd.ntmps22 rfl (fun F => ?_)
  repeat (first | refine GO ?_ | refine NW fun _ => ?_)
  refine WC.cond rfl (fun hb => ?_) (fun _ => ?_)
  · simp [h] at hb
  repeat (first | refine GO ?_ | refine NW fun _ => ?_)
  exact ret1 rfl ⟨_, ⟨_, rfl, rfl⟩, Imp.refl _⟩

end Go.Proofs.YtkoakmaihcheaacDoor
/- Contracts of functions of the given program, and plain laws on what they compute: parts of the proofs of laws. -/

namespace Go.Proofs.YtkoakmaihcheaacDoor
open Go Go.GL

theorem repL_bytes (n : Nat) : repL [Value.int .u8 0] n = (List.replicate n (0 : UInt8)).map byteV := by
  induction n with
  | zero => rfl
  | succ n ih => simp only [repL, ih, List.replicate_succ, List.map_cons, List.singleton_append]; rfl
theorem allOne_bytes (l : List UInt8) : allOne (l.map byteV) = true := by
  induction l with
  | nil => rfl
  | cons x r ih => simpa [allOne, one, byteV] using ih
def textB (s : ByteArray) : List UInt8 := numB s.size ++ s.data.toList
theorem clamp_nat (n : Nat) (h : (n : Int) ≤ widest) : clampN n = n := by unfold clampN widest at *; omega
set_option maxHeartbeats 1000000 in
set_option maxRecDepth 10000 in
theorem text_ok (a : Option Addr) (n cap : Nat) (l : List UInt8) (s : ByteArray) (hn : n < 100000) (hs : s.size < 100000) :
    Triple G 24 [.slice a n cap, .string s] [ownS a n cap 5 1 (l.map byteV)] (NumPost n l (textB s)) := by
  refine Triple.enter Tryd.func24 rfl (by decide) rfl Tryd.ntmps24 rfl (fun F => ?_)
  repeat (first | refine GO ?_ | refine NW fun _ => ?_)
  refine WL.step rfl (OP.call (pre := [ownS a n cap 5 1 (l.map byteV)]) rfl rfl (number_ok a n cap l s.size (by omega)) PS rfl rfl ?_)
  rintro _ _ ⟨a1, cap1, rfl, rfl⟩
  have h9 := numB_nine s.size
  have hcl := clamp_nat s.size (by unfold widest; omega)
  rw [hcl] at h9 ⊢
  repeat (first | refine GO ?_ | refine NW fun _ => ?_)
  refine WL.step rfl (OP.appendStr rfl rfl rfl rfl rfl rfl rfl rfl rfl rfl P1 (by omega) rfl rfl (fun a2 cap2 => ?_))
  repeat (first | refine GO ?_ | refine NW fun _ => ?_)
  have hsl : s.data.toList.length = s.size := Array.length_toList
  have e : n + (numB s.size).length + s.size = n + (textB s).length := by unfold textB; rw [List.length_append, hsl]; omega
  refine ret1 rfl ⟨[_], ⟨a2, cap2, by rw [e], ?_⟩, II⟩
  rw [e]
  unfold textB
  rw [← List.append_assoc, List.map_append (l₁ := l ++ numB s.size)]
  rfl
set_option maxRecDepth 10000 in
theorem num_ro (x least : Int) : RO G 21 [.int .i64 x, .int .i64 least] (fun _ => True) (.bool (decide (least ≤ x ∧ x ≤ widest))) := by
  refine RO.enter Tryd.func21 rfl (by decide) rfl Tryd.ntmps21 rfl (fun A _ hA => ?_) (fun _ _ _ h => h)
  by_cases h1 : least ≤ x
  · by_cases h2 : x ≤ 1152921504606846975
    · repeat (first | refine GD ?_ | refine NW fun _ => ?_)
      exact ret1 rfl ⟨by unfold widest; simp [h1, h2], MM⟩
    · repeat (first | refine GD ?_ | refine NW fun _ => ?_)
      exact ret1 rfl ⟨by unfold widest; simp [h2], MM⟩
  · repeat (first | refine GD ?_ | refine NW fun _ => ?_)
    exact ret1 rfl ⟨by simp [h1], MM⟩
set_option maxRecDepth 10000 in
theorem grow_ok (n : Nat) (hn : n < 10000000) : RT G 67 [.slice none 0 0, .int .i64 n] (fun _ => True) (fun v E => ∃ a cap, v = .slice a 0 cap ∧ E = [ownS a 0 cap 5 1 []]) := by
  refine RT.enter Tryd.func67 rfl (by decide) rfl Tryd.ntmps67 rfl (fun A hu hA => ?_)
  by_cases h0 : n = 0
  · subst h0
    rw [show ((0 : Nat) : Int) = 0 from rfl]
    repeat (first | refine GD ?_ | refine NW fun _ => ?_)
    exact ret1 rfl ⟨[_], ⟨none, 0, rfl, rfl⟩, Imp.nilS 5 1⟩
  · repeat (first | refine GD ?_ | refine NW fun _ => ?_)
    refine WL.step rfl (OP.appendZ rfl rfl rfl rfl rfl rfl rfl rfl rfl rfl (by omega) (by omega) (by omega) (by omega) rfl rfl (fun b cap hcap => ?_))
    refine WL.imp (Imp.ownTake (m := 0) (by omega)) ?_
    repeat (first | refine GD ?_ | refine NW fun _ => ?_)
    exact ret1 rfl ⟨[_], ⟨_, cap, rfl, by simp⟩, Imp.refl _⟩
/-- two slices, one behind the other -/
def TwoS (a : Option Addr) (a1 a2 : Option Addr) (n1 c1 n2 c2 : Nat) (l1 l2 : List UInt8) : Assn := fun h => readS a 2 1 [.slice a1 n1 c1, .slice a2 n2 c2] h ∧ readS a1 n1 1 (l1.map byteV) h ∧ readS a2 n2 1 (l2.map byteV) h
set_option maxHeartbeats 1000000 in
set_option maxRecDepth 10000 in
theorem concat_ok (a a1 a2 : Option Addr) (c n1 c1 n2 c2 : Nat) (l1 l2 : List UInt8) (h1 : n1 = l1.length) (h2 : n2 = l2.length) (hs1 : n1 < 1000000) (hs2 : n2 < 1000000) :
    RT G 45 [.slice a 2 c] (TwoS a a1 a2 n1 c1 n2 c2 l1 l2) (BytesNew (l1 ++ l2)) := by
  refine RT.enter Tryd.func45 rfl (by decide) rfl Tryd.ntmps45 rfl (fun A hu hA => ?_)
  have hE : ∀ {L}, A ∈ L → Ent L (readS a 2 1 [.slice a1 n1 c1, .slice a2 n2 c2]) := fun m => Ent.mem m hu fun h x => (hA h x).1
  have hE1 : ∀ {L}, A ∈ L → Ent L (readS a1 n1 1 (l1.map byteV)) := fun m => Ent.mem m hu fun h x => (hA h x).2.1
  have hE2 : ∀ {L}, A ∈ L → Ent L (readS a2 n2 1 (l2.map byteV)) := fun m => Ent.mem m hu fun h x => (hA h x).2.2
  refine WC.fact (Ent.some (hE MM) (by decide)) ?_
  rintro ⟨b, off, rfl⟩
  repeat (first | refine GO ?_ | refine NW fun _ => ?_)
  refine WC.loop (σ := Nat × Int) (fun s => s.1 ≤ 2 ∧ (s.1 = 0 → s.2 = 0) ∧ (s.1 = 1 → s.2 = n1) ∧ (s.1 = 2 → s.2 = (n1 : Int) + n2))
    (fun s => [(0, .val (.slice (some ⟨b, off, none⟩) 2 c)), (3, .val (.int .i64 s.2)), (9, .val (.slice (some ⟨b, off, none⟩) 2 c)), (10, .val (.int .i64 2)), (11, .val (.int .i64 s.1))])
    (fun s => [A]) (fun s => 2 - s.1) (0, 0) ⟨by simp, by simp, by simp, by simp⟩ ⟨rfl, rfl, rfl, rfl, rfl, trivial⟩ (Imp.refl _) ?_
  rintro ⟨k, t⟩ ⟨hk, ht0, ht1, ht2⟩
  dsimp only at hk ht0 ht1 ht2 ⊢
  obtain rfl | rfl | rfl : k = 0 ∨ k = 1 ∨ k = 2 := by omega
  · obtain rfl := ht0 rfl
    repeat (first | refine GD ?_ | refine NW fun _ => ?_)
    refine WL.step rfl (OP.load1 (v := .slice a1 n1 c1) rfl rfl rfl rfl (Ent.elem (i := 0) (hE MM) rfl rfl) rfl rfl ?_)
    repeat (first | refine GD ?_ | refine NW fun _ => ?_)
    exact ⟨(1, 0 + n1), ⟨by simp, by simp, by simp, by simp⟩, by simp, ⟨rfl, rfl, rfl, rfl, rfl, trivial⟩, Imp.refl _⟩
  · obtain rfl := ht1 rfl
    repeat (first | refine GD ?_ | refine NW fun _ => ?_)
    refine WL.step rfl (OP.load1 (v := .slice a2 n2 c2) rfl rfl rfl rfl (Ent.elem (i := 1) (hE MM) rfl rfl) rfl rfl ?_)
    repeat (first | refine GD ?_ | refine NW fun _ => ?_)
    exact ⟨(2, (n1 : Int) + n2), ⟨by simp, by simp, by simp, by simp⟩, by simp, ⟨rfl, rfl, rfl, rfl, rfl, trivial⟩, Imp.refl _⟩
  obtain rfl := ht2 rfl
  rw [← Int.natCast_add]
  repeat (first | refine GD ?_ | refine NW fun _ => ?_)
  refine WL.step rfl (OP.callRT rfl rfl (grow_ok (n1 + n2) (by omega)) (fun _ _ => trivial) rfl rfl ?_)
  rintro v E ⟨ag, cg, rfl, rfl⟩
  repeat (first | refine GD ?_ | refine NW fun _ => ?_)
  refine WC.loop (σ := Nat × Option Addr × Nat × Nat × List UInt8) (fun s => s.1 ≤ 2 ∧ s.2.2.1 = s.2.2.2.2.length ∧ (s.1 = 0 → s.2.2.2.2 = []) ∧ (s.1 = 1 → s.2.2.2.2 = l1) ∧ (s.1 = 2 → s.2.2.2.2 = l1 ++ l2))
    (fun s => [(25, .val (.slice (some ⟨b, off, none⟩) 2 c)), (6, .val (.slice s.2.1 s.2.2.1 s.2.2.2.1)), (26, .val (.int .i64 2)), (27, .val (.int .i64 s.1))])
    (fun s => [ownS s.2.1 s.2.2.1 s.2.2.2.1 5 1 (s.2.2.2.2.map byteV), A]) (fun s => 2 - s.1) (0, ag, 0, cg, []) ⟨by simp, rfl, by simp, by simp, by simp⟩ ⟨rfl, rfl, rfl, rfl, trivial⟩ II ?_
  rintro ⟨k, a', n', cap', l⟩ ⟨hk, hn', ht0, ht1, ht2⟩
  dsimp only at hk hn' ht0 ht1 ht2 ⊢
  obtain rfl | rfl | rfl : k = 0 ∨ k = 1 ∨ k = 2 := by omega
  · obtain rfl := ht0 rfl
    obtain rfl : n' = 0 := hn'
    repeat (first | refine GD ?_ | refine NW fun _ => ?_)
    refine WL.step rfl (OP.load1 (v := .slice a1 n1 c1) rfl rfl rfl rfl (Ent.elem (i := 0) (hE MM) rfl rfl) rfl rfl ?_)
    repeat (first | refine GD ?_ | refine NW fun _ => ?_)
    refine WL.step rfl (OP.append rfl rfl rfl rfl rfl rfl rfl rfl rfl P1 (hE1 MM) (allOne_bytes _) (by omega) (by omega) rfl rfl (fun a2' cap2 => ?_))
    repeat (first | refine GD ?_ | refine NW fun _ => ?_)
    exact ⟨(1, a2', 0 + n1, cap2, l1), ⟨by simp, by simp [h1], by simp, by simp, by simp⟩, by simp, ⟨rfl, rfl, rfl, rfl, trivial⟩, II⟩
  · obtain rfl := ht1 rfl
    repeat (first | refine GD ?_ | refine NW fun _ => ?_)
    refine WL.step rfl (OP.load1 (v := .slice a2 n2 c2) rfl rfl rfl rfl (Ent.elem (i := 1) (hE MM) rfl rfl) rfl rfl ?_)
    repeat (first | refine GD ?_ | refine NW fun _ => ?_)
    refine WL.step rfl (OP.append rfl rfl rfl rfl rfl rfl rfl rfl rfl P1 (hE2 MM) (allOne_bytes _) (by omega) (by omega) rfl rfl (fun a2' cap2 => ?_))
    repeat (first | refine GD ?_ | refine NW fun _ => ?_)
    exact ⟨(2, a2', n' + n2, cap2, l ++ l2), ⟨by simp, by simp [hn', h2], by simp, by simp, by simp⟩, by simp, ⟨rfl, rfl, rfl, rfl, trivial⟩, by rw [List.map_append]; exact II⟩
  · obtain rfl := ht2 rfl
    subst hn'
    repeat (first | refine GD ?_ | refine NW fun _ => ?_)
    exact ret1 rfl ⟨[_], ⟨a', cap', rfl, rfl⟩, II⟩
end Go.Proofs.YtkoakmaihcheaacDoor
/- Contracts of functions of the given program, and plain laws on what they compute: parts of the proofs of laws. -/

namespace Go.Proofs.YtkoakmaihcheaacDoor
open Go Go.GL

theorem tailM_len (l : List UInt8) : (tailM l).length = 4 := rfl
set_option maxHeartbeats 1000000 in
set_option maxRecDepth 10000 in
theorem seal_ok (a : Option Addr) (n cap : Nat) (l : List UInt8) (hn : n = l.length) (hs : n < 1000000) : RT G 44 [.slice a n cap] (readS a n 1 (l.map byteV)) (BytesNew (l ++ tailM l)) := by
  refine RT.enter Tryd.func44 rfl (by decide) rfl Tryd.ntmps44 rfl (fun A hu hA => ?_)
  have hE : ∀ {L}, A ∈ L → Ent L (readS a n 1 (l.map byteV)) := fun m => Ent.mem m hu hA
  repeat (first | refine GO ?_ | refine NW fun _ => ?_)
  refine WL.step rfl (OP.callRT rfl rfl (tail_ok a n cap l hn hs) (hE MM) rfl rfl ?_)
  rintro v E ⟨a1, cap1, rfl, rfl⟩
  repeat (first | refine GO ?_ | refine NW fun _ => ?_)
  refine WL.step rfl (OP.callRT rfl rfl (concat_ok _ a a1 2 n cap 4 cap1 l (tailM l) hn rfl hs (by decide)) (Ent.and (Ent.own MM) (Ent.and (hE MM) (Ent.own (T := 5) MM))) rfl rfl ?_)
  rintro v E ⟨a2, cap2, rfl, rfl⟩
  repeat (first | refine GO ?_ | refine NW fun _ => ?_)
  exact ret1 rfl ⟨[_], ⟨a2, cap2, rfl, rfl⟩, II⟩
def padM (l : List UInt8) : List UInt8 := l ++ List.replicate (60 - l.length) 0
def sectorM (l : List UInt8) : List UInt8 := padM l ++ tailM (padM l)
theorem padM_len {l : List UInt8} (h : l.length ≤ 60) : (padM l).length = 60 := by unfold padM; rw [List.length_append, List.length_replicate]; omega
theorem sectorM_len {l : List UInt8} (h : l.length ≤ 60) : (sectorM l).length = 64 := by unfold sectorM; rw [List.length_append, padM_len h, tailM_len]
set_option maxHeartbeats 1000000 in
set_option maxRecDepth 10000 in
theorem sector_ok (a : Option Addr) (n cap : Nat) (l : List UInt8) (hn : n = l.length) (hs : n ≤ 60) : RT G 25 [.slice a n cap] (readS a n 1 (l.map byteV)) (fun v E => ∃ v1, v = .tuple #[v1, .bool true] ∧ BytesNew (sectorM l) v1 E) := by
  refine RT.enter Tryd.func25 rfl (by decide) rfl Tryd.ntmps25 rfl (fun A hu hA => ?_)
  have hE : ∀ {L}, A ∈ L → Ent L (readS a n 1 (l.map byteV)) := fun m => Ent.mem m hu hA
  repeat (first | refine GD ?_ | refine NW fun _ => ?_)
  refine WL.step rfl (OP.makeS rfl rfl rfl rfl rfl rfl rfl rfl (by omega) (by omega) (by omega) rfl rfl (fun b => ?_))
  rw [repL_bytes]
  repeat (first | refine GD ?_ | refine NW fun _ => ?_)
  refine WL.step rfl (OP.callRT rfl rfl (concat_ok _ a (some ⟨b, 0, none⟩) 2 n cap _ _ l (List.replicate ((60 : Int) - n).toNat 0) hn (by rw [List.length_replicate]) (by omega) (by omega)) (Ent.and (Ent.own MM) (Ent.and (hE MM) (Ent.own (T := 5) MM))) rfl rfl ?_)
  rintro v E ⟨a2, cap2, rfl, rfl⟩
  repeat (first | refine GD ?_ | refine NW fun _ => ?_)
  have hp : l ++ List.replicate ((60 : Int) - n).toNat 0 = padM l := by unfold padM; rw [show ((60 : Int) - n).toNat = 60 - l.length by omega]
  rw [hp]
  have hpl := padM_len (l := l) (by omega)
  refine WL.step rfl (OP.callRT rfl rfl (seal_ok a2 _ cap2 (padM l) rfl (by omega)) (Ent.own MM) rfl rfl ?_)
  rintro v E ⟨a3, cap3, rfl, rfl⟩
  repeat (first | refine GD ?_ | refine NW fun _ => ?_)
  exact ret2 rfl rfl ⟨[_], ⟨_, rfl, a3, cap3, rfl, rfl⟩, II⟩

/-- a record: number, kind, block, data, marker -/
abbrev Rec := Int × Int × Int × ByteArray × Int
def encR (r : Rec) : List Value := [.int .i64 r.1, .int .i64 r.2.1, .int .i64 r.2.2.1, .string r.2.2.2.1, .int .i64 r.2.2.2.2]
def RightR (r : Rec) : Prop := (1 ≤ r.1 ∧ r.1 ≤ widest) ∧ ((r.2.1 = 2 ∧ (1 ≤ r.2.2.2.2 ∧ r.2.2.2.2 ≤ widest) ∧ r.2.2.2.1 = ⟨#[]⟩ ∧ r.2.2.1 = 0) ∨ (r.2.1 = 1 ∧ (0 ≤ r.2.2.1 ∧ r.2.2.1 < 8) ∧ r.2.2.2.1.size ≤ 16 ∧ r.2.2.2.2 = 0))
instance (r : Rec) : Decidable (RightR r) := by unfold RightR; infer_instance
set_option maxHeartbeats 4000000 in
set_option maxRecDepth 10000 in
theorem right_ro (r : Rec) (hsz : r.2.2.2.1.size < 1000000) : RO G 20 [.agg (encR r).toArray] (fun _ => True) (.bool (decide (RightR r))) := by
  refine RO.enter Tryd.func20 rfl (by decide) rfl Tryd.ntmps20 rfl (fun A hu hA => ?_) (fun _ _ _ h => h)
  obtain ⟨seq, kind, block, data, num⟩ := r
  unfold RightR widest
  dsimp only at hsz ⊢
  rw [show encR (seq, kind, block, data, num) = [.int .i64 seq, .int .i64 kind, .int .i64 block, .string data, .int .i64 num] from rfl]
  repeat (first | refine GO ?_ | refine NW fun _ => ?_)
  refine WL.step rfl (OP.callRO rfl rfl (num_ro _ _) (fun _ _ => trivial) rfl rfl ?_)
  unfold widest
  by_cases h2 : kind = 2
  · by_cases hs : 1 ≤ seq ∧ seq ≤ 1152921504606846975
    rotate_left
    · rw [decide_eq_false hs]
      repeat (first | refine GD ?_ | refine NW fun _ => ?_)
      exact ret1 rfl ⟨by first | (simp; omega) | (simp [*]; omega) | simp [*], MM⟩
    rw [decide_eq_true hs]
    repeat (first | refine GD ?_ | refine NW fun _ => ?_)
    refine WL.guardT rfl rfl rfl rfl (OP.callRO rfl rfl (num_ro _ _) (fun _ _ => trivial) rfl rfl ?_)
    unfold widest
    by_cases hn : 1 ≤ num ∧ num ≤ 1152921504606846975
    rotate_left
    · rw [decide_eq_false hn]
      repeat (first | refine GD ?_ | refine NW fun _ => ?_)
      exact ret1 rfl ⟨by first | (simp; omega) | (simp [*]; omega) | simp [*], MM⟩
    rw [decide_eq_true hn]
    by_cases hd : data = ⟨#[]⟩
    rotate_left
    · repeat (first | refine GD ?_ | refine NW fun _ => ?_)
      exact ret1 rfl ⟨by first | (simp; omega) | (simp [*]; omega) | simp [*], MM⟩
    have hsz0 : data.size = 0 := by rw [hd]; rfl
    by_cases hb0 : 0 ≤ block
    rotate_left
    · repeat (first | refine GD ?_ | refine NW fun _ => ?_)
      exact ret1 rfl ⟨by first | (simp; omega) | (simp [*]; omega) | simp [*], MM⟩
    by_cases hb8 : block < 8
    rotate_left
    · repeat (first | refine GD ?_ | refine NW fun _ => ?_)
      exact ret1 rfl ⟨by first | (simp; omega) | (simp [*]; omega) | simp [*], MM⟩
    by_cases hb : block = 0
    · repeat (first | refine GD ?_ | refine NW fun _ => ?_)
      exact ret1 rfl ⟨by first | (simp; omega) | (simp [*]; omega) | simp [*], MM⟩
    · repeat (first | refine GD ?_ | refine NW fun _ => ?_)
      exact ret1 rfl ⟨by first | (simp; omega) | (simp [*]; omega) | simp [*], MM⟩
  · by_cases h1 : kind = 1
    rotate_left
    · repeat (first | refine GD ?_ | refine NW fun _ => ?_)
      exact ret1 rfl ⟨by first | (simp; omega) | (simp [*]; omega) | simp [*], MM⟩
    by_cases hs : 1 ≤ seq ∧ seq ≤ 1152921504606846975
    rotate_left
    · rw [decide_eq_false hs]
      repeat (first | refine GD ?_ | refine NW fun _ => ?_)
      exact ret1 rfl ⟨by first | (simp; omega) | (simp [*]; omega) | simp [*], MM⟩
    rw [decide_eq_true hs]
    by_cases hb0 : 0 ≤ block
    rotate_left
    · repeat (first | refine GD ?_ | refine NW fun _ => ?_)
      exact ret1 rfl ⟨by first | (simp; omega) | (simp [*]; omega) | simp [*], MM⟩
    by_cases hb8 : block < 8
    rotate_left
    · repeat (first | refine GD ?_ | refine NW fun _ => ?_)
      exact ret1 rfl ⟨by first | (simp; omega) | (simp [*]; omega) | simp [*], MM⟩
    by_cases hs16 : data.size ≤ 16
    rotate_left
    · repeat (first | refine GD ?_ | refine NW fun _ => ?_)
      exact ret1 rfl ⟨by first | (simp; omega) | (simp [*]; omega) | simp [*], MM⟩
    by_cases hn0 : num = 0
    · repeat (first | refine GD ?_ | refine NW fun _ => ?_)
      exact ret1 rfl ⟨by first | (simp; omega) | (simp [*]; omega) | simp [*], MM⟩
    · repeat (first | refine GD ?_ | refine NW fun _ => ?_)
      exact ret1 rfl ⟨by first | (simp; omega) | (simp [*]; omega) | simp [*], MM⟩
end Go.Proofs.YtkoakmaihcheaacDoor
