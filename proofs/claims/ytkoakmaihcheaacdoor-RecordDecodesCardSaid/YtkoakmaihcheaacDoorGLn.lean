/- Comparing structs; a quiet operation of a drawn region by its own run. -/
import Derived.Test.YtkoakmaihcheaacDoorGLk
namespace Go.GL
open Go
/-- one field of one cell, of a plain type -/
def eqF (T : Tab) (f : Field) (xs ys : List Value) : Option Bool :=
  match T.find f.type with
  | some ⟨.int _, _, _, _, false, _⟩ => match xs[f.offset]?, ys[f.offset]? with
    | some (.int .i64 a), some (.int .i64 b) => some (decide (a = b))
    | some (.int .u64 a), some (.int .u64 b) => some (decide (a = b))
    | some (.int .u32 a), some (.int .u32 b) => some (decide (a = b))
    | some (.int .u8 a), some (.int .u8 b) => some (decide (a = b))
    | _, _ => none
  | some ⟨.string, _, _, _, false, _⟩ => match xs[f.offset]?, ys[f.offset]? with
    | some (.string a), some (.string b) => some (decide (a = b))
    | _, _ => none
  | some ⟨.bool, _, _, _, false, _⟩ => match xs[f.offset]?, ys[f.offset]? with
    | some (.bool a), some (.bool b) => some (a == b)
    | _, _ => none
  | _ => none
def eqFs (T : Tab) (xs ys : List Value) : List Field → Option Bool
  | [] => some true
  | f :: r => match eqF T f xs ys, eqFs T xs ys r with
    | some a, some b => some (a && b)
    | _, _ => none
section
variable {P : Program} {t : TypeId} {w : World} (d : Nat)
theorem equalIn_int {k0 : IntKind} (h : P.underlying t = some (.int k0)) (k : IntKind) (a b : Int) : (Op.equalIn (d + 1) t (.int k a) (.int k b)).run P w = .ok (decide (a = b)) w := by
  simp [Op.equalIn, run_underlying h]; rfl
theorem equalIn_str (h : P.underlying t = some .string) (a b : ByteArray) : (Op.equalIn (d + 1) t (.string a) (.string b)).run P w = .ok (decide (a = b)) w := by
  have e : (a == b) = decide (a = b) := by
    cases a with | mk x => cases b with | mk y =>
      have : ((⟨x⟩ : ByteArray) == ⟨y⟩) = (x == y) := rfl
      rw [this, Bool.eq_iff_iff, beq_iff_eq, decide_eq_true_eq]
      exact ⟨fun h => by rw [h], fun h => by cases h; rfl⟩
  simp [Op.equalIn, run_underlying h, e]
theorem run_part (f : Field) {i : TI} (e : TIOk P f.type i) (ha : i.agg = false) {xs : List Value} {v : Value} (hx : xs[f.offset]? = some v) : (part f.type xs.toArray f.offset).run P w = .ok v w := by
  have ha' : (isAgg f.type).run P w = .ok false w := by rw [run_isAgg e, ha]
  simp [part, ha', hx]
end
theorem eqF_ok {P : Program} {T : Tab} (hT : T.ok P) {f : Field} {xs ys : List Value} {b : Bool} (d : Nat) (h : eqF T f xs ys = some b) (w : World) :
    ∃ x y, (part f.type xs.toArray f.offset).run P w = .ok x w ∧ (part f.type ys.toArray f.offset).run P w = .ok y w ∧ (Op.equalIn (d + 1) f.type x y).run P w = .ok b w := by
  unfold eqF at h
  split at h
  · rename_i ht
    have e := Tab.find_ok hT ht
    split at h <;> first | (cases h; done) | (rename_i hx hy; cases h; exact ⟨_, _, run_part f e rfl hx, run_part f e rfl hy, equalIn_int d e.desc _ _ _⟩)
  · rename_i ht
    have e := Tab.find_ok hT ht
    split at h <;> first | (cases h; done) | (rename_i hx hy; cases h; exact ⟨_, _, run_part f e rfl hx, run_part f e rfl hy, equalIn_str d e.desc _ _⟩)
  · rename_i ht
    have e := Tab.find_ok hT ht
    split at h <;> first | (cases h; done) | (rename_i hx hy; cases h; exact ⟨_, _, run_part f e rfl hx, run_part f e rfl hy, equalIn_bool d e.desc _ _⟩)
  · cases h
theorem run_eqAgg {P : Program} {T : Tab} (hT : T.ok P) {t : TypeId} {fs : Array Field} {ti : TI} {xs ys : List Value} {b : Bool} (d : Nat) (ht : T.find t = some ti) (hdesc : ti.desc = .struct fs) (hst : P.stoodInHeld t = false) (hn : (fs.toList.all fun f => f.name != "_") = true) (hb : eqFs T xs ys fs.toList = some b) (w : World) :
    (Op.equalIn (d + 2) t (.agg xs.toArray) (.agg ys.toArray)).run P w = .ok b w := by
  have e := Tab.find_ok hT ht
  have hd := e.desc
  rw [hdesc] at hd
  unfold Op.equalIn
  simp only [Sem.run_bind, run_underlying hd, Result.andThen_ok, run_program, hst, Bool.false_eq_true, if_false]
  rw [← Array.forIn_toList]
  generalize fs.toList = l at *
  induction l generalizing b with
  | nil =>
    simp only [eqFs, Option.some.injEq] at hb
    subst hb
    simp
  | cons f r ih =>
    simp only [eqFs] at hb
    split at hb
    · rename_i a a' ha ha'
      simp only [Option.some.injEq] at hb
      subst hb
      obtain ⟨x, y, h1, h2, h3⟩ := eqF_ok hT d ha w
      simp only [List.all_cons, Bool.and_eq_true, bne_iff_ne, ne_eq] at hn
      simp only [List.forIn_cons, ne_eq, hn.1, not_false_eq_true, if_true, Sem.run_bind, h1, h2, h3, Result.andThen_ok]
      cases a with
      | false => simp
      | true =>
        have := ih hn.2 ha'
        simpa using this
    · cases hb
section
variable {G : Ctx} {N : Nat} {env : Env} {L S : List Assn} {k : Kont} {n : Nat} {fuel : Nat} {listed : Array Bool} {hd : Bool} {l : List Oper} {o : Oper} {post : Env → List Assn → Prop} {d : Nat}
/-- what a comparison of structs comes to -/
structure EqAgg (G : Ctx) (env : Env) (op : Op) (b : Bool) : Prop where
  run : ∀ N a w (o : Oper), o.op = op → Agree N env a → (execOp a.eval o).run G.P w = .ok (.value (.bool b)) w
theorem EqAgg.neq {t t2 : TypeId} {x y : Operand} {fs : Array Field} {ti : TI} {xs ys : List Value} {b : Bool} (hx : rd none env x = some (none, .agg xs.toArray)) (hy : rd none env y = some (none, .agg ys.toArray))
    (ht : G.T.find t = some ti) (hdesc : ti.desc = .struct fs) (hst : G.P.stoodInHeld t = false) (hgt : G.P.eqGuardType G.P.depth t = false) (hn : (fs.toList.all fun f => f.name != "_") = true) (hb : eqFs G.T xs ys fs.toList = some b) : EqAgg G env (.binOp .neq t x y t2) (!b) := ⟨fun N a w o ho ha => by
  rw [execOp, ho]
  refine val_run ?_
  have h1 : (eqGuard .neq t x y (.agg xs.toArray) (.agg ys.toArray)).run G.P w = .ok () w := by simp [eqGuard, hgt]
  have h2 := bin_ne rfl (run_eqAgg G.ok 9998 ht hdesc hst hn hb w)
  simp only [rd_plain hx ha, rd_plain hy ha, Sem.run_bind, h1, Result.andThen_ok, h2]⟩
theorem EqAgg.eql {t t2 : TypeId} {x y : Operand} {fs : Array Field} {ti : TI} {xs ys : List Value} {b : Bool} (hx : rd none env x = some (none, .agg xs.toArray)) (hy : rd none env y = some (none, .agg ys.toArray))
    (ht : G.T.find t = some ti) (hdesc : ti.desc = .struct fs) (hst : G.P.stoodInHeld t = false) (hgt : G.P.eqGuardType G.P.depth t = false) (hn : (fs.toList.all fun f => f.name != "_") = true) (hb : eqFs G.T xs ys fs.toList = some b) : EqAgg G env (.binOp .eql t x y t2) b := ⟨fun N a w o ho ha => by
  rw [execOp, ho]
  refine val_run ?_
  have h1 : (eqGuard .eql t x y (.agg xs.toArray) (.agg ys.toArray)).run G.P w = .ok () w := by simp [eqGuard, hgt]
  have h2 := bin_eq rfl (run_eqAgg G.ok 9998 ht hdesc hst hn hb w)
  simp only [rd_plain hx ha, rd_plain hy ha, Sem.run_bind, h1, Result.andThen_ok, h2]⟩
theorem eqF_self {T : Tab} {f : Field} {xs : List Value} {b : Bool} (h : eqF T f xs xs = some b) : b = true := by
  unfold eqF at h
  split at h
  · generalize xs[f.offset]? = o at h
    split at h <;> first | (cases h; done) | skip
    all_goals (cases h; simp_all)
  · generalize xs[f.offset]? = o at h
    split at h <;> first | (cases h; done) | skip
    all_goals (cases h; simp_all)
  · generalize xs[f.offset]? = o at h
    split at h <;> first | (cases h; done) | skip
    all_goals (cases h; simp_all)
  · cases h
theorem eqFs_self {T : Tab} {xs : List Value} : ∀ {fs : List Field} {b : Bool}, eqFs T xs xs fs = some b → b = true
  | [], b, h => by cases h; rfl
  | f :: r, b, h => by
    simp only [eqFs] at h
    split at h
    · rename_i a a' ha ha'
      cases h
      rw [eqF_self ha, eqFs_self ha']; rfl
    · cases h
theorem EqAgg.neqSelf {t t2 : TypeId} {x y : Operand} {fs : Array Field} {ti : TI} {xs : List Value} (hx : rd none env x = some (none, .agg xs.toArray)) (hy : rd none env y = some (none, .agg xs.toArray))
    (ht : G.T.find t = some ti) (hdesc : ti.desc = .struct fs) (hst : G.P.stoodInHeld t = false) (hgt : G.P.eqGuardType G.P.depth t = false) (hn : (fs.toList.all fun f => f.name != "_") = true) (hb : (eqFs G.T xs xs fs.toList).isSome = true) : EqAgg G env (.binOp .neq t x y t2) false := by
  obtain ⟨b, hb⟩ := Option.isSome_iff_exists.1 hb
  have := EqAgg.neq (t2 := t2) hx hy ht hdesc hst hgt hn hb
  rw [eqFs_self hb] at this
  exact this
theorem EqAgg.eqlSelf {t t2 : TypeId} {x y : Operand} {fs : Array Field} {ti : TI} {xs : List Value} (hx : rd none env x = some (none, .agg xs.toArray)) (hy : rd none env y = some (none, .agg xs.toArray))
    (ht : G.T.find t = some ti) (hdesc : ti.desc = .struct fs) (hst : G.P.stoodInHeld t = false) (hgt : G.P.eqGuardType G.P.depth t = false) (hn : (fs.toList.all fun f => f.name != "_") = true) (hb : (eqFs G.T xs xs fs.toList).isSome = true) : EqAgg G env (.binOp .eql t x y t2) true := by
  obtain ⟨b, hb⟩ := Option.isSome_iff_exists.1 hb
  have := EqAgg.eql (t2 := t2) hx hy ht hdesc hst hgt hn hb
  rw [eqFs_self hb] at this
  exact this
theorem OP.eqAgg {b : Bool} (e : EqAgg G env o.op b) (hd : o.dst = some d) (hN : Nat.blt d N = true) (h : post ((d, .val (.bool b)) :: env) L) : OP G N o env L post :=
  .run (fun a w ha _ => e.run N a w o rfl ha) hd hN h
theorem WH.eqAgg (i : Nat) {b : Bool} (hi : l.toArray[i]? = some o) (hg : o.guard = none) (hs : Region.noSelect l.toArray = true) (hf : Region.free .any l.toArray listed i = true) (hr : (Region.ready .any l.toArray listed).contains i = true)
    (hk : ∀ c env L, ¬ k (.panic c) env L) (hH : (hd || Nat.ble n i) = true) (e : EqAgg G env o.op b) (hdst : o.dst = some d) (hN : Nat.blt d N = true)
    (h : WH G N l.toArray n S hd fuel (listed.setIfInBounds i true) ((d, .val (.bool b)) :: env) L k) : WH G N l.toArray n S hd (fuel + 1) listed env L k := .mk fun ht a w ha hsat hS hcl => by
  have hri : i ∈ Region.ready .any l.toArray listed := by simpa using hr
  refine wpB_first (R := fun _ => True) hi (Region.noSelect_spec hs) (fun c a w => noPanic hk c a w _ _) ht (.inl fun _ => trivial) fuel listed a w hcl (Region.free_spec hi hf) hri
    (.inl ⟨by simp [Region.wanted, hg], fun w _ => e.run N a w o rfl ha⟩) trivial (fun hin => ?_) ?_
  · cases hd with
    | true => exact hS rfl
    | false => have := Nat.le_of_ble_eq_true (by simpa using hH); omega
  · rw [hdst]; exact h ht _ w (ha.put hN _) hsat hS (hcl.set hri)
end
end Go.GL
