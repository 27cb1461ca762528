/- Quiet operations of drawn regions, guarded or not, by what they come to. -/
import Derived.Test.YtkoakmaihcheaacDoorGLp
namespace Go.GL
open Go
/-- What an operation comes to where S holds; it changes nothing. -/
structure Quiet (G : Ctx) (N : Nat) (env : Env) (S : List Assn) (o : Oper) (v : Value) : Prop where
  run : ∀ a w, Agree N env a → Sat S w → (execOp a.eval o).run G.P w = .ok (.value v) w
section
variable {G : Ctx} {N : Nat} {env : Env} {L S : List Assn} {o : Oper} {post : Env → List Assn → Prop} {d : Nat}
theorem Quiet.pure {nw : Bool} {c : Option Prop} {v : Value} (he : ev G.T nw none env o.op = some (c, v)) (hc : Holds c) : Quiet G N env S o v := ⟨fun _ w ha _ => ev_ok G.ok he hc trivial ha w⟩
theorem Quiet.load {t : TypeId} {x : Operand} {b off : Nat} {ti : TI} {v : Value} (ho : o.op = .load t x) (hx : rd none env x = some (none, .pointer (some ⟨b, off, none⟩))) (hti : G.T.find t = some ti) (hv : Loads S ti b off v) : Quiet G N env S o v :=
  ⟨fun _ _ ha hs => run_loads G.ok ho (rd_plain hx ha) hti hv hs⟩
theorem Quiet.eqAgg {b : Bool} (e : EqAgg G env o.op b) : Quiet G N env S o (.bool b) := ⟨fun a w ha _ => e.run N a w o rfl ha⟩
theorem Quiet.pickT {x y z : Operand} {v : Value} (ho : o.op = .pick x y z) (hx : rd none env x = some (none, .bool true)) (hv : rd none env y = some (none, v)) : Quiet G N env S o v :=
  ⟨fun a w ha _ => by rw [execOp, ho]; simp [rd_plain hx ha, rd_plain hv ha, asBool]⟩
theorem Quiet.pickF {x y z : Operand} {v : Value} (ho : o.op = .pick x y z) (hx : rd none env x = some (none, .bool false)) (hv : rd none env z = some (none, v)) : Quiet G N env S o v :=
  ⟨fun a w ha _ => by rw [execOp, ho]; simp [rd_plain hx ha, rd_plain hv ha, asBool]⟩
/-- string(b) -/
theorem Quiet.toStr {s t e : TypeId} {x : Operand} {a : Option Addr} {n cap : Nat} {sv : ByteArray} {tis tit tie : TI} (ho : o.op = .convert s t x) (hx : rd none env x = some (none, .slice a n cap)) (hs : G.T.find s = some tis) (hsd : tis.desc = .slice e) (ht : G.T.find t = some tit) (htd : tit.desc = .string)
    (hte : G.T.find e = some tie) (hed : tie.desc = .int .u8) (hr : Ent S (readS a n 1 (strCells sv))) : Quiet G N env S o (.string sv) :=
  ⟨fun ac w ha hsat => by
    have us : G.P.underlying s = some (.slice e) := hsd ▸ (Tab.find_ok G.ok hs).desc
    have ut : G.P.underlying t = some .string := htd ▸ (Tab.find_ok G.ok ht).desc
    have ue : G.P.underlying e = some (.int .u8) := hed ▸ (Tab.find_ok G.ok hte).desc
    rw [execOp, ho]
    refine val_run ?_
    obtain ⟨e1, hh⟩ := hr _ hsat
    simp only [convert, Sem.run_bind, run_underlying us, run_underlying ut, Result.andThen_ok, rd_plain hx ha, run_underlying ue]
    rcases hh with ⟨rfl, rfl⟩ | ⟨b, off, rfl, hc⟩
    · have : sv = ByteArray.empty := by
        rw [strCells_length] at e1
        have h0 : sv.size = 0 := by simpa using e1
        exact ByteArray.size_eq_zero_iff.1 h0
      simp [Conv.bytesToString, this]
    · have hl := run_cells (P := G.P) hc (strCells sv).length 0 #[] (by omega)
      simp only [List.drop_zero, Array.empty_append] at hl
      have e1 : (strCells sv).length = n := by simpa using e1
      have hl' : (loadCells ⟨b, off, none⟩ n).run G.P w = .ok (strCells sv).toArray w := by rw [← e1]; exact hl
      simp only [Conv.bytesToString, Sem.run_bind, hl', Result.andThen_ok]
      rw [List.forIn_toArray]
      unfold strCells
      rw [push_all (fun b s => by simp [byteV]) sv.data.toList ByteArray.empty G.P w]
      simp⟩
theorem OP.quiet {v : Value} (h : Quiet G N env L o v) (hd : o.dst = some d) (hN : Nat.blt d N = true) (k : post ((d, .val v) :: env) L) : OP G N o env L post := .run (fun a w ha hs => h.run a w ha hs) hd hN k
end
section
variable {G : Ctx} {N : Nat} {env : Env} {L S : List Assn} {k : Kont} {n : Nat} {fuel : Nat} {listed : Array Bool} {l : List Oper} {o : Oper}
theorem WH.q (i : Nat) {d : Nat} {v : Value} (hi : l.toArray[i]? = some o) (hg : o.guard = none) (hs : Region.noSelect l.toArray = true) (hf : Region.free .any l.toArray listed i = true) (hr : (Region.ready .any l.toArray listed).contains i = true)
    (hk : ∀ c env L, ¬ k (.panic c) env L) (hin : Nat.blt i n = true) (hq : Quiet G N env S o v) (hdst : o.dst = some d) (hN : Nat.blt d N = true)
    (h : WH G N l.toArray n S true fuel (listed.setIfInBounds i true) ((d, .val v) :: env) L k) : WH G N l.toArray n S true (fuel + 1) listed env L k := .mk fun ht a w ha hsat hS hcl => by
  have hri : i ∈ Region.ready .any l.toArray listed := by simpa using hr
  have hin' : i < n := by simpa [Nat.blt_eq] using hin
  refine wpB_first (R := Sat S) hi (Region.noSelect_spec hs) (fun c a w => noPanic hk c a w _ _) ht (.inr ⟨hin', fun _ h => h⟩) fuel listed a w hcl (Region.free_spec hi hf) hri
    (.inl ⟨by simp [Region.wanted, hg], fun w hw => hq.run a w ha hw⟩) (hS rfl) (fun _ => hS rfl) ?_
  rw [hdst]; exact h ht _ w (ha.put hN v) hsat hS (hcl.set hri)
/-- its guard says yes -/
theorem WH.gT (i : Nat) {j jt d : Nat} {want : Bool} {oj : Oper} {v : Value} (hi : l.toArray[i]? = some o) (hg : o.guard = some (j, want)) (hj : l.toArray[j]? = some oj) (hjt : oj.dst = some jt) (hw : gdOf env jt want = some true)
    (hs : Region.noSelect l.toArray = true) (hf : Region.free .any l.toArray listed i = true) (hr : (Region.ready .any l.toArray listed).contains i = true)
    (hk : ∀ c env L, ¬ k (.panic c) env L) (hin : Nat.blt i n = true) (hq : Quiet G N env S o v) (hdst : o.dst = some d) (hN : Nat.blt d N = true)
    (h : WH G N l.toArray n S true fuel (listed.setIfInBounds i true) ((d, .val v) :: env) L k) : WH G N l.toArray n S true (fuel + 1) listed env L k := .mk fun ht a w ha hsat hS hcl => by
  have hri : i ∈ Region.ready .any l.toArray listed := by simpa using hr
  have hin' : i < n := by simpa [Nat.blt_eq] using hin
  have hw := gdOf_ok (ops := l.toArray) ha hw hj hjt hg
  refine wpB_first (R := Sat S) hi (Region.noSelect_spec hs) (fun c a w => noPanic hk c a w _ _) ht (.inr ⟨hin', fun _ h => h⟩) fuel listed a w hcl (Region.free_spec hi hf) hri
    (.inl ⟨hw, fun w hw => hq.run a w ha hw⟩) (hS rfl) (fun _ => hS rfl) ?_
  rw [hdst]; exact h ht _ w (ha.put hN v) hsat hS (hcl.set hri)
/-- what a guard's temporary says no to -/
def gdNo (env : Env) (t : Nat) (want : Bool) : Bool :=
  match want, Env.get env t with
  | true, some (.val (.bool false)) => true
  | false, some (.val (.bool true)) => true
  | _, some (.val (.tuple ⟨[]⟩)) => true
  | _, _ => false
theorem gdNo_ok {a : Act} (ha : Agree N env a) {t : Nat} {want : Bool} (h : gdNo env t want = true) {ops : Array Oper} {j : Nat} {oj : Oper} (hj : ops[j]? = some oj) (hd : oj.dst = some t) (hg : o.guard = some (j, want)) :
    Region.wanted o (yielded ops a.tmps) = false := by
  simp only [Region.wanted, hg, yielded, hj, hd, Option.bind_some]
  unfold gdNo at h
  split at h
  · rename_i hs
    have := ha.at_ _ _ hs
    simp only [Slot.fits] at this
    rw [this]
    rfl
  · rename_i hs
    have := ha.at_ _ _ hs
    simp only [Slot.fits] at this
    rw [this]
    rfl
  · rename_i hs
    have := ha.at_ _ _ hs
    simp only [Slot.fits] at this
    rw [this]
    rfl
  · cases h
/-- its guard says no -/
theorem WH.gF (i : Nat) {j jt d : Nat} {want : Bool} {oj : Oper} (hi : l.toArray[i]? = some o) (hg : o.guard = some (j, want)) (hj : l.toArray[j]? = some oj) (hjt : oj.dst = some jt) (hw : gdNo env jt want = true)
    (hs : Region.noSelect l.toArray = true) (hf : Region.free .any l.toArray listed i = true) (hr : (Region.ready .any l.toArray listed).contains i = true)
    (hk : ∀ c env L, ¬ k (.panic c) env L) (hin : Nat.blt i n = true) (hdst : o.dst = some d) (hN : Nat.blt d N = true)
    (h : WH G N l.toArray n S true fuel (listed.setIfInBounds i true) ((d, .val undef) :: env) L k) : WH G N l.toArray n S true (fuel + 1) listed env L k := .mk fun ht a w ha hsat hS hcl => by
  have hri : i ∈ Region.ready .any l.toArray listed := by simpa using hr
  have hin' : i < n := by simpa [Nat.blt_eq] using hin
  have hw := gdNo_ok (ops := l.toArray) ha hw hj hjt hg
  refine wpB_first (R := Sat S) (v := undef) hi (Region.noSelect_spec hs) (fun c a w => noPanic hk c a w _ _) ht (.inr ⟨hin', fun _ h => h⟩) fuel listed a w hcl (Region.free_spec hi hf) hri
    (.inr ⟨hw, rfl⟩) (hS rfl) (fun _ => hS rfl) ?_
  rw [hdst]; exact h ht _ w (ha.put hN _) hsat hS (hcl.set hri)
end
section
variable {G : Ctx} {env : Env} {L : List Assn}
theorem ret2c {p : Value → List Assn → Prop} {t u ty b off : Nat} {ti : TI} {v : Value} {l : List Value} (h1 : Env.get env t = some (.val v)) (h2 : Env.get env u = some (.val (.pointer (some ⟨b, off, none⟩)))) (ht : G.T.find ty = some ti) (hg : ti.agg = true) (hl : l.length = ti.size) (hc : Ent L (cellsAt b off l)) (h : p (.tuple #[v, .agg l.toArray]) L) :
    retK G [.tmp t, .cell u ty] p .ret env L := ⟨[v, .agg l.toArray], ⟨v, [.agg l.toArray], rfl, h1, b, off, _, [], ti, rfl, h2, ht, .inr ⟨hg, l, rfl, hl, hc⟩, rfl⟩, h⟩
theorem ret3c {p : Value → List Assn → Prop} {t u s ty b off : Nat} {ti : TI} {v x : Value} {l : List Value} (h1 : Env.get env t = some (.val v)) (h2 : Env.get env u = some (.val (.pointer (some ⟨b, off, none⟩)))) (h3 : Env.get env s = some (.val x)) (ht : G.T.find ty = some ti) (hg : ti.agg = true) (hl : l.length = ti.size) (hc : Ent L (cellsAt b off l)) (h : p (.tuple #[v, .agg l.toArray, x]) L) :
    retK G [.tmp t, .cell u ty, .tmp s] p .ret env L := ⟨[v, .agg l.toArray, x], ⟨v, [.agg l.toArray, x], rfl, h1, b, off, _, [x], ti, rfl, h2, ht, .inr ⟨hg, l, rfl, hl, hc⟩, x, [], rfl, h3, rfl⟩, h⟩
end
end Go.GL
