/- Regions whose order the tape picks. -/
import Derived.Test.YtkoakmaihcheaacDoorGLf
namespace Go.GL
open Go

section
variable {P : Program} {ops : Array Oper} {Q : Exit → Act → World → Prop} {S : World → Prop} {n : Nat}
/-- Whatever order is picked from here on; S holds behind each of the first n operations. -/
def wpB (P : Program) (ops : Array Oper) (Q : Exit → Act → World → Prop) (S : World → Prop) (n : Nat) : Nat → Array Bool → Act → World → Prop
  | 0, listed, a, w => Region.ready .any ops listed = [] ∧ Q .normal a w
  | fuel + 1, listed, a, w =>
    (Region.ready .any ops listed = [] → Q .normal a w) ∧
    ∀ i ∈ Region.ready .any ops listed, wpOp P ops Q i (fun a' w' => (i < n → S w') ∧ wpB P ops Q S n fuel (listed.setIfInBounds i true) a' w') a w
theorem wpAny_of_B : ∀ (fuel : Nat) (listed : Array Bool) (a : Act) (w : World), wpB P ops Q S n fuel listed a w → wpAny P .any ops Q fuel listed a w
  | 0, _, _, _, h => h
  | fuel + 1, _, _, _, h => ⟨h.1, fun i hi => wpOp_mono (fun a' w' h' => wpAny_of_B fuel _ a' w' h'.2) (h.2 i hi)⟩
def Closed (ops : Array Oper) (listed : Array Bool) : Prop :=
  ∀ j oj, ops[j]? = some oj → listed.getD j false = true → ∀ e ∈ oj.after, Region.binds .any e = true → listed.getD e.on false = true
inductive Before (ops : Array Oper) : Nat → Nat → Prop
  | one {j : Nat} {oj : Oper} {e : Edge} : ops[j]? = some oj → e ∈ oj.after → Region.binds .any e = true → Before ops e.on j
  | more {i j : Nat} {oj : Oper} {e : Edge} : ops[j]? = some oj → e ∈ oj.after → Region.binds .any e = true → Before ops i e.on → Before ops i j
theorem Closed.before {listed : Array Bool} (c : Closed ops listed) {i j : Nat} (b : Before ops i j) (h : listed.getD j false = true) : listed.getD i false = true := by
  induction b with
  | one ho he hb => exact c _ _ ho h _ he hb
  | more ho he hb _ ih => exact ih (c _ _ ho h _ he hb)
theorem ready_before {listed : Array Bool} (c : Closed ops listed) {i j : Nat} (b : Before ops i j) (h : j ∈ Region.ready .any ops listed) : listed.getD i false = true := by
  obtain ⟨_, oj, hoj, hall⟩ := mem_ready.1 h
  cases b with
  | one ho he hb => rw [ho] at hoj; cases hoj; exact hall _ he hb
  | more ho he hb b => rw [ho] at hoj; cases hoj; exact c.before b (hall _ he hb)
theorem Closed.set {listed : Array Bool} (c : Closed ops listed) {i : Nat} (h : i ∈ Region.ready .any ops listed) : Closed ops (listed.setIfInBounds i true) := by
  have up : ∀ k, listed.getD k false = true → (listed.setIfInBounds i true).getD k false = true := fun k hk => by
    by_cases e : i = k
    · subst e
      have : i < listed.size := by
        rcases Nat.lt_or_ge i listed.size with h | h
        · exact h
        · simp [Array.getElem?_eq_none h] at hk
      simp [this]
    · rw [getD_set_ne false e]; exact hk
  obtain ⟨_, oi, hoi, hall⟩ := mem_ready.1 h
  intro j oj hoj hj e he hb
  by_cases hij : i = j
  · subst hij
    rw [hoi] at hoj; cases hoj
    exact up _ (hall e he hb)
  · rw [getD_set_ne false hij] at hj
    exact up _ (c j oj hoj hj e he hb)
theorem Closed.start : Closed ops (Array.replicate ops.size false) := fun j oj _ h => by
  simp [Array.getElem?_replicate] at h
  split at h <;> simp_all
def beforeB (ops : Array Oper) : Nat → Nat → Nat → Bool
  | 0, _, _ => false
  | f + 1, i, j => match ops[j]? with
    | none => false
    | some oj => oj.after.any (fun e => Region.binds .any e && e.on == i) || oj.after.any (fun e => Region.binds .any e && beforeB ops f i e.on)
theorem beforeB_ok : ∀ {f i j : Nat}, beforeB ops f i j = true → Before ops i j
  | f + 1, i, j, h => by
    unfold beforeB at h
    split at h
    · cases h
    · rename_i oj ho
      rw [Bool.or_eq_true] at h
      rcases h with h | h
      · obtain ⟨e, he, hb⟩ := Array.any_eq_true'.1 h
        simp only [Bool.and_eq_true, beq_iff_eq] at hb
        rw [← hb.2]; exact .one ho he hb.1
      · obtain ⟨e, he, hb⟩ := Array.any_eq_true'.1 h
        simp only [Bool.and_eq_true] at hb
        exact .more ho he hb.1 (beforeB_ok hb.2)
/-- each operation from number n on waits for all of the first n -/
def tailB (ops : Array Oper) (n : Nat) : Bool := (List.range ops.size).all fun j => Nat.blt j n || (List.range n).all fun i => beforeB ops ops.size i j
theorem tailB_ok (h : tailB ops n = true) {listed : Array Bool} (c : Closed ops listed) {i : Nat} (hi : i < n) (hu : listed.getD i true = false) {j : Nat} (hj : j ∈ Region.ready .any ops listed) : j < n := by
  rcases Nat.lt_or_ge j n with h' | h'
  · exact h'
  · obtain ⟨_, oj, hoj, _⟩ := mem_ready.1 hj
    have hlt := (Array.getElem?_eq_some_iff.1 hoj).1
    simp only [tailB, List.all_eq_true, List.mem_range, Bool.or_eq_true] at h
    rcases h j hlt with h1 | h1
    · simp [Nat.blt_eq] at h1; omega
    · have := ready_before c (beforeB_ok (h1 i hi)) hj
      rcases Nat.lt_or_ge i listed.size with h2 | h2
      · simp [h2] at hu this; rw [hu] at this; cases this
      · simp [Array.getElem?_eq_none h2] at hu

/-- An operation that yields its value wherever R holds may be taken first: if R holds as long as it is pending. -/
theorem wpB_first {R : World → Prop} {i : Nat} {oi : Oper} {v : Value} (hi : ops[i]? = some oi) (hsel : ∀ (j : Nat) (o : Oper) cs b, ops[j]? = some o → o.op ≠ .select cs b)
    (hQ : ∀ c a w, Q (.panic c) (a.put oi.dst v) w → Q (.panic c) a w) (ht : tailB ops n = true) (hR : (∀ w, R w) ∨ (i < n ∧ ∀ w, S w → R w)) :
    ∀ (fuel : Nat) (listed : Array Bool) (a : Act) (w : World), Closed ops listed →
      (∀ j oj, ops[j]? = some oj → j ≠ i → listed.getD j true = false → (∀ e ∈ oj.after, Region.binds .any e = true → e.on ≠ i) → oi.apart ops oj = true) →
      i ∈ Region.ready .any ops listed → YieldsIf P ops R oi v a → R w → (i < n → S w) →
      wpB P ops Q S n fuel (listed.setIfInBounds i true) (a.put oi.dst v) w → wpB P ops Q S n (fuel + 1) listed a w := by
  intro fuel
  induction fuel with
  | zero =>
    intro listed a w hc _ hr hy hRw hS H
    refine ⟨fun h => (by rw [h] at hr; cases hr), fun j hj => ?_⟩
    by_cases hji : j = i
    · subst hji; exact hy.wpOp hi hRw ⟨hS, H⟩
    · have := ready_mono hj hji
      rw [H.1] at this
      cases this
  | succ fuel ih =>
    intro listed a w hc hfree hr hy hRw hS H
    refine ⟨fun h => (by rw [h] at hr; cases hr), fun j hj => ?_⟩
    by_cases hji : j = i
    · subst hji; exact hy.wpOp hi hRw ⟨hS, H⟩
    · have h1 := H.2 j (ready_mono hj hji)
      obtain ⟨hjun, oj, hoj, hall⟩ := mem_ready.1 hj
      have hnot : ∀ e ∈ oj.after, Region.binds .any e = true → e.on ≠ i := fun e he hb heq => by
        have h1 := hall e he hb
        have h0 := (mem_ready.1 hr).1
        rw [heq] at h1
        rcases Nat.lt_or_ge i listed.size with h' | h'
        · simp [h'] at h0 h1; rw [h0] at h1; cases h1
        · simp [Array.getElem?_eq_none h'] at h1
      have h2 := wpOp_putIf hoj (hfree j oj hoj hji hjun hnot) (fun cs b => hsel i oi cs b hi) (fun cs b => hsel j oj cs b hoj) hQ hy h1
      have hfree' : ∀ k ok, ops[k]? = some ok → k ≠ i → (listed.setIfInBounds j true).getD k true = false →
          (∀ e ∈ ok.after, Region.binds .any e = true → e.on ≠ i) → oi.apart ops ok = true := fun k ok hk hki hun hno => by
        refine hfree k ok hk hki ?_ hno
        by_cases hjk : j = k
        · subst hjk; exact hjun
        · rw [getD_set_ne true hjk] at hun; exact hun
      have hjn : i < n → j < n := fun hin => tailB_ok ht hc hin (mem_ready.1 hr).1 hj
      refine wpOp_mono (fun a' w' h3 => ⟨h3.2.1, ih (listed.setIfInBounds j true) a' w' (hc.set hj) hfree' (ready_mono hr (Ne.symm hji)) h3.1 ?_ ?_ ?_⟩) h2
      · rcases hR with hR | ⟨hin, hR⟩
        · exact hR _
        · exact hR _ (h3.2.1 (hjn hin))
      · exact fun hin => h3.2.1 (hjn hin)
      · rw [Array.setIfInBounds_comm _ _ hji]
        exact h3.2.2
end

/-- A region whose order the tape picks: so many of its operations have come up. 'S': what its loads lean on, as long as one of the first n is to come. 'hd': S is known to hold now. -/
structure WH (G : Ctx) (N : Nat) (ops : Array Oper) (n : Nat) (S : List Assn) (hd : Bool) (fuel : Nat) (listed : Array Bool) (env : Env) (L : List Assn) (k : Kont) : Prop where
  go : tailB ops n = true → ∀ a w, Agree N env a → Sat L w → (hd = true → Sat S w) → Closed ops listed → wpB G.P ops (lift N k) (Sat S) n fuel listed a w
instance (G : Ctx) (N : Nat) (ops : Array Oper) (n : Nat) (S : List Assn) (hd : Bool) (fuel : Nat) (listed : Array Bool) (env : Env) (L : List Assn) (k : Kont) : CoeFun (WH G N ops n S hd fuel listed env L k) (fun _ => tailB ops n = true → ∀ a w, Agree N env a → Sat L w → (hd = true → Sat S w) → Closed ops listed → wpB G.P ops (lift N k) (Sat S) n fuel listed a w) := ⟨WH.go⟩
section
variable {G : Ctx} {N : Nat} {env : Env} {L S : List Assn} {k : Kont} {n : Nat} {fuel : Nat} {listed : Array Bool} {hd : Bool}
theorem WC.regionD {id : Nat} {l : List Oper} (n m : Nat) (S : List Assn) (hm : l.length = m) (ht : tailB l.toArray n = true) (hS : Imp L S) (h : WH G N l.toArray n S true m (Array.replicate m false) env L k) : WC G N (.region id l.toArray true) env L k := .mk fun a w ha hs =>
  wp_region_any G.mixed (wpAny_of_B _ _ _ _ (by
    subst hm
    have hs' : Sat L { w with drawn := w.drawn + 1 } := hs
    have := h ht a _ ha hs' (fun _ => hS.sat hs') (by have := Closed.start (ops := l.toArray); simpa using this)
    simpa using this))
variable {l : List Oper} {o : Oper}
theorem WH.done (hr : Region.ready .any l.toArray listed = []) (h : k .normal env L) : WH G N l.toArray n S hd fuel listed env L k := .mk fun _ a w ha hs _ _ => by
  have : lift N k .normal a w := ⟨env, L, ha, hs, h⟩
  cases fuel with
  | zero => exact ⟨hr, this⟩
  | succ f => exact ⟨fun _ => this, by rw [hr]; simp⟩
theorem noPanic (hk : ∀ c env L, ¬ k (.panic c) env L) (c : List PanicEntry) (a : Act) (w : World) (d : Option Tmp) (v : Value) : lift N k (.panic c) (a.put d v) w → lift N k (.panic c) a w := fun ⟨_, _, _, _, h⟩ => (hk _ _ _ h).elim
/-- take operation number i: it only computes -/
theorem WH.pure (i : Nat) {d : Nat} {nw : Bool} {c : Option Prop} {v : Value} (hi : l.toArray[i]? = some o) (hg : o.guard = none) (hs : Region.noSelect l.toArray = true) (hf : Region.free .any l.toArray listed i = true) (hr : (Region.ready .any l.toArray listed).contains i = true)
    (hk : ∀ c env L, ¬ k (.panic c) env L) (hH : (hd || Nat.ble n i) = true) (he : ev G.T nw none env o.op = some (c, v)) (hc : Holds c) (hdst : o.dst = some d) (hN : Nat.blt d N = true)
    (h : WH G N l.toArray n S hd fuel (listed.setIfInBounds i true) ((d, .val v) :: env) L k) : WH G N l.toArray n S hd (fuel + 1) listed env L k := .mk fun ht a w ha hsat hS hcl => by
  have hri : i ∈ Region.ready .any l.toArray listed := by simpa using hr
  refine wpB_first (R := fun _ => True) hi (Region.noSelect_spec hs) (fun c a w => noPanic hk c a w _ _) ht (.inl fun _ => trivial) fuel listed a w hcl (Region.free_spec hi hf) hri
    (.inl ⟨by simp [Region.wanted, hg], fun w _ => ev_ok G.ok he hc trivial ha w⟩) trivial (fun hin => ?_) ?_
  · cases hd with
    | true => exact hS rfl
    | false => have := Nat.le_of_ble_eq_true (by simpa using hH); omega
  · rw [hdst]; exact h ht _ w (ha.put hN v) hsat hS (hcl.set hri)
/-- take operation number i, which is guarded and only computes -/
theorem WH.guarded (i : Nat) {j t d : Nat} {want q nw : Bool} {oj : Oper} {c : Option Prop} {v : Value} (hi : l.toArray[i]? = some o) (hg : o.guard = some (j, want)) (hj : l.toArray[j]? = some oj) (hjt : oj.dst = some t) (hq : gdOf env t want = some q)
    (hs : Region.noSelect l.toArray = true) (hf : Region.free .any l.toArray listed i = true) (hr : (Region.ready .any l.toArray listed).contains i = true)
    (hk : ∀ c env L, ¬ k (.panic c) env L) (hH : (hd || Nat.ble n i) = true) (he : ev G.T nw (some q) env o.op = some (c, v)) (hc : Holds c) (hdst : o.dst = some d) (hN : Nat.blt d N = true)
    (h : WH G N l.toArray n S hd fuel (listed.setIfInBounds i true) ((d, .grd q v) :: env) L k) : WH G N l.toArray n S hd (fuel + 1) listed env L k := .mk fun ht a w ha hsat hS hcl => by
  have hri : i ∈ Region.ready .any l.toArray listed := by simpa using hr
  have hw := gdOf_ok (ops := l.toArray) ha hq hj hjt hg
  refine wpB_first (R := fun _ => True) (v := bif q then v else undef) hi (Region.noSelect_spec hs) (fun c a w => noPanic hk c a w _ _) ht (.inl fun _ => trivial) fuel listed a w hcl (Region.free_spec hi hf) hri ?_ trivial (fun hin => ?_) ?_
  · cases q with
    | true => exact .inl ⟨hw, fun w _ => ev_ok G.ok he hc rfl ha w⟩
    | false => exact .inr ⟨hw, rfl⟩
  · cases hd with
    | true => exact hS rfl
    | false => have := Nat.le_of_ble_eq_true (by simpa using hH); omega
  · rw [hdst]; exact h ht _ w (ha.grd hN rfl) hsat hS (hcl.set hri)
theorem run_load1 {P : Program} {T : Tab} (hT : T.ok P) {t : TypeId} {x : Operand} {b off : Nat} {ti : TI} {v : Value} {a : Act} {w : World} (ho : o.op = .load t x) (hx : a.eval x = .pointer (some ⟨b, off, none⟩)) (ht : T.find t = some ti) (hg : ti.agg = false)
    (hv : cellAt b off v (hpOf w)) : (execOp a.eval o).run P w = .ok (.value v) w := by
  have e := Tab.find_ok hT ht
  rw [execOp, ho]
  refine val_run ?_
  have hc := cell_of_cellAt hv
  simp [Instr.loadAt, hx, Instr.sureAddr, loadVar, run_isAgg e, hg, hc]
theorem run_loadA {P : Program} {T : Tab} (hT : T.ok P) {t : TypeId} {x : Operand} {b off : Nat} {ti : TI} {l : List Value} {a : Act} {w : World} (ho : o.op = .load t x) (hx : a.eval x = .pointer (some ⟨b, off, none⟩)) (ht : T.find t = some ti) (hg : ti.agg = true)
    (hv : cellsAt b off l (hpOf w)) (hl : l.length = ti.size) : (execOp a.eval o).run P w = .ok (.value (.agg l.toArray)) w := by
  have e := Tab.find_ok hT ht
  rw [execOp, ho]
  refine val_run ?_
  have hc := run_cells (P := P) hv l.length 0 #[] (by omega)
  simp only [List.drop_zero, Array.empty_append] at hc
  simp [Instr.loadAt, hx, Instr.sureAddr, loadVar, run_isAgg e, hg, run_size e, loadCells, ← hl, hc]
/-- what a load reads -/
def Loads (S : List Assn) (ti : TI) (b off : Nat) (v : Value) : Prop := (ti.agg = false ∧ Ent S (cellAt b off v)) ∨ (ti.agg = true ∧ ∃ l, v = .agg l.toArray ∧ l.length = ti.size ∧ Ent S (cellsAt b off l))
theorem loads_cut {ti : TI} {b off n : Nat} {l : List Value} (hg : ti.agg = true) (hn : sizeL ti = some n) (h : HasCut S b off n l) : Loads S ti b off (.agg l.toArray) := .inr ⟨hg, l, rfl, h.ent.2.trans (sizeL_eq hn).symm, h.ent.1⟩
theorem run_loads {P : Program} {T : Tab} (hT : T.ok P) {t : TypeId} {x : Operand} {b off : Nat} {ti : TI} {v : Value} {a : Act} {w : World} (ho : o.op = .load t x) (hx : a.eval x = .pointer (some ⟨b, off, none⟩)) (ht : T.find t = some ti)
    (hv : Loads S ti b off v) (hs : Sat S w) : (execOp a.eval o).run P w = .ok (.value v) w := by
  rcases hv with ⟨hg, h⟩ | ⟨hg, l, rfl, hl, h⟩
  · exact run_load1 hT ho hx ht hg (h _ hs)
  · exact run_loadA hT ho hx ht hg (h _ hs) hl
/-- take operation number i: a load of what S tells -/
theorem WH.load (i : Nat) {d : Nat} {t : TypeId} {x : Operand} {b off : Nat} {ti : TI} {v : Value} (hi : l.toArray[i]? = some o) (hg : o.guard = none) (hs : Region.noSelect l.toArray = true) (hf : Region.free .any l.toArray listed i = true) (hr : (Region.ready .any l.toArray listed).contains i = true)
    (hk : ∀ c env L, ¬ k (.panic c) env L) (hin : Nat.blt i n = true) (ho : o.op = .load t x) (hx : rd none env x = some (none, .pointer (some ⟨b, off, none⟩))) (hti : G.T.find t = some ti) (hv : Loads S ti b off v) (hdst : o.dst = some d) (hN : Nat.blt d N = true)
    (h : WH G N l.toArray n S true fuel (listed.setIfInBounds i true) ((d, .val v) :: env) L k) : WH G N l.toArray n S true (fuel + 1) listed env L k := .mk fun ht a w ha hsat hS hcl => by
  have hri : i ∈ Region.ready .any l.toArray listed := by simpa using hr
  have hin' : i < n := by simpa [Nat.blt_eq] using hin
  refine wpB_first (R := Sat S) hi (Region.noSelect_spec hs) (fun c a w => noPanic hk c a w _ _) ht (.inr ⟨hin', fun _ h => h⟩) fuel listed a w hcl (Region.free_spec hi hf) hri
    (.inl ⟨by simp [Region.wanted, hg], fun w hw => run_loads G.ok ho (rd_plain hx ha) hti hv hw⟩) (hS rfl) (fun _ => hS rfl) ?_
  rw [hdst]; exact h ht _ w (ha.put hN v) hsat hS (hcl.set hri)
/-- a guarded load -/
theorem WH.loadG (i : Nat) {j jt d : Nat} {want q : Bool} {oj : Oper} {t : TypeId} {x : Operand} {b off : Nat} {ti : TI} {v : Value} {c : Option Prop} (hi : l.toArray[i]? = some o) (hg : o.guard = some (j, want)) (hj : l.toArray[j]? = some oj) (hjt : oj.dst = some jt) (hq : gdOf env jt want = some q)
    (hs : Region.noSelect l.toArray = true) (hf : Region.free .any l.toArray listed i = true) (hr : (Region.ready .any l.toArray listed).contains i = true)
    (hk : ∀ c env L, ¬ k (.panic c) env L) (hin : Nat.blt i n = true) (ho : o.op = .load t x) (hx : rd (some q) env x = some (c, .pointer (some ⟨b, off, none⟩))) (hc : Holds c) (hti : G.T.find t = some ti) (hv : q = true → Loads S ti b off v) (hdst : o.dst = some d) (hN : Nat.blt d N = true)
    (h : WH G N l.toArray n S true fuel (listed.setIfInBounds i true) ((d, .grd q v) :: env) L k) : WH G N l.toArray n S true (fuel + 1) listed env L k := .mk fun ht a w ha hsat hS hcl => by
  have hri : i ∈ Region.ready .any l.toArray listed := by simpa using hr
  have hin' : i < n := by simpa [Nat.blt_eq] using hin
  have hw := gdOf_ok (ops := l.toArray) ha hq hj hjt hg
  refine wpB_first (R := Sat S) (v := bif q then v else undef) hi (Region.noSelect_spec hs) (fun c a w => noPanic hk c a w _ _) ht (.inr ⟨hin', fun _ h => h⟩) fuel listed a w hcl (Region.free_spec hi hf) hri ?_ (hS rfl) (fun _ => hS rfl) ?_
  · cases q with
    | true => exact .inl ⟨hw, fun w hw => run_loads G.ok ho (rd_ok ha hx hc rfl) hti (hv rfl) hw⟩
    | false => exact .inr ⟨hw, rfl⟩
  rw [hdst]; exact h ht _ w (ha.grd hN rfl) hsat hS (hcl.set hri)
/-- the one operation that may come up now -/
theorem WH.only (i : Nat) {hd' : Bool} (hi : l.toArray[i]? = some o) (hg : o.guard = none) (hr : Region.ready .any l.toArray listed = [i]) (hb : hd' = Nat.blt i n)
    (h : OP G N o env L (fun e M => (hd' = true → Imp M S) ∧ WH G N l.toArray n S hd' fuel (listed.setIfInBounds i true) e M k)) : WH G N l.toArray n S hd (fuel + 1) listed env L k := .mk fun ht a w ha hsat _ hcl => by
  have hri : i ∈ Region.ready .any l.toArray listed := by rw [hr]; simp
  refine ⟨fun h0 => (by rw [hr] at h0; cases h0), fun j hj => ?_⟩
  rw [hr] at hj
  simp only [List.mem_singleton] at hj
  subst hj
  unfold wpOp
  rw [hi]
  simp only []
  rw [if_pos (by simp [Region.wanted, hg])]
  refine .inl (wp_oper_mono ?_ (fun _ _ _ h => h.elim) (h a w ha hsat))
  rintro a' w' ⟨e, M, x, y, z1, z2⟩
  refine ⟨fun hlt => (z1 ?_).sat y, z2 ht a' w' x y (fun e => (z1 e).sat y) (hcl.set hri)⟩
  rw [hb]; simpa [Nat.blt_eq] using hlt
/-- likewise, where its guard says no or yes -/
theorem WH.onlyG (i : Nat) {hd' : Bool} {j t d : Nat} {want q : Bool} {oj : Oper} (hi : l.toArray[i]? = some o) (hg : o.guard = some (j, want)) (hj : l.toArray[j]? = some oj) (hjt : oj.dst = some t) (hq : gdOf env t want = some q) (hdst : o.dst = some d) (hN : Nat.blt d N = true)
    (hr : Region.ready .any l.toArray listed = [i]) (hb : hd' = Nat.blt i n) (hh : hd = true ∨ hd' = false)
    (h1 : q = true → OP G N o env L (fun e M => (hd' = true → Imp M S) ∧ WH G N l.toArray n S hd' fuel (listed.setIfInBounds i true) e M k))
    (h2 : q = false → WH G N l.toArray n S hd' fuel (listed.setIfInBounds i true) ((d, .val undef) :: env) L k) : WH G N l.toArray n S hd (fuel + 1) listed env L k := .mk fun ht a w ha hsat hS hcl => by
  have hri : i ∈ Region.ready .any l.toArray listed := by rw [hr]; simp
  have hw := gdOf_ok (ops := l.toArray) ha hq hj hjt hg
  refine ⟨fun h0 => (by rw [hr] at h0; cases h0), fun j' hj' => ?_⟩
  rw [hr] at hj'
  simp only [List.mem_singleton] at hj'
  subst hj'
  unfold wpOp
  rw [hi]
  simp only []
  rw [hw]
  cases q with
  | true =>
    rw [if_pos rfl]
    refine .inl (wp_oper_mono ?_ (fun _ _ _ h => h.elim) (h1 rfl a w ha hsat))
    rintro a' w' ⟨e, M, x, y, z1, z2⟩
    refine ⟨fun hlt => (z1 ?_).sat y, z2 ht a' w' x y (fun e => (z1 e).sat y) (hcl.set hri)⟩
    rw [hb]; simpa [Nat.blt_eq] using hlt
  | false =>
    rw [if_neg (by simp), hdst]
    have hS' : hd' = true → Sat S w := fun e => by
      rcases hh with hh | hh
      · exact hS hh
      · rw [hh] at e; cases e
    refine ⟨fun hlt => hS' ?_, h2 rfl ht _ w (ha.put hN _) hsat hS' (hcl.set hri)⟩
    rw [hb]; simpa [Nat.blt_eq] using hlt
end
end Go.GL
