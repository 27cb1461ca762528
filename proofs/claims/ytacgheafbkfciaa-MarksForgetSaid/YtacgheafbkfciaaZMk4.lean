/- Contracts of functions of the given program, and plain laws: parts of the proofs of laws. -/
import Derived.Test.YtacgheafbkfciaaZMk3
/- Regions whose order the tape picks. -/
namespace Go.GL
open Go

section
variable {P : Program} {ops : Array Oper} {Q : Exit → Act → World → Prop} {S : World → Prop} {n : Nat}
/-- Whatever order is picked from here on; S holds behind each of the first n operations. -/
def wpB (P : Program) (ops : Array Oper) (Q : Exit → Act → World → Prop) (S : World → Prop) (n : Nat) : Bool → Nat → Array Bool → Act → World → Prop
  | _, 0, listed, a, w => Region.ready .any ops listed = [] ∧ Q .normal a w
  | h, fuel + 1, listed, a, w =>
    (Region.ready .any ops listed = [] → Q .normal a w) ∧
    ∀ i ∈ Region.ready .any ops listed, wpOp P ops Q i (fun a' w' => ((h && Nat.blt i n) = true → S w') ∧ wpB P ops Q S n (h && Nat.blt i n) fuel (listed.setIfInBounds i true) a' w') a w
theorem wpAny_of_B : ∀ (h : Bool) (fuel : Nat) (listed : Array Bool) (a : Act) (w : World), wpB P ops Q S n h fuel listed a w → wpAny P .any ops Q fuel listed a w
  | _, 0, _, _, _, h => h
  | _, fuel + 1, _, _, _, h => ⟨h.1, fun i hi => wpOp_mono (fun a' w' h' => wpAny_of_B _ fuel _ a' w' h'.2) (h.2 i hi)⟩
def Closed (ops : Array Oper) (listed : Array Bool) : Prop :=
  ∀ j oj, ops[j]? = some oj → listed.getD j false = true → ∀ e ∈ oj.after, Region.binds .any e = true → listed.getD e.on false = true
inductive Before (ops : Array Oper) : Nat → Nat → Prop
  | one {j : Nat} {oj : Oper} {e : Edge} : ops[j]? = some oj → e ∈ oj.after → Region.binds .any e = true → Before ops e.on j
  | more {i j : Nat} {oj : Oper} {e : Edge} : ops[j]? = some oj → e ∈ oj.after → Region.binds .any e = true → Before ops i e.on → Before ops i j
theorem Closed.before {listed : Array Bool} (c : Closed ops listed) {i j : Nat} (b : Before ops i j) (h : listed.getD j false = true) : listed.getD i false = true := by
  induction b with
  | one ho he hb => exact c _ _ ho h _ he hb
  | more ho he hb _ ih => exact ih (c _ _ ho h _ he hb)
theorem ready_before {listed : Array Bool} (c : Closed ops listed) {i j : Nat} (b : Before ops i j) (h : j ∈ Region.ready .any ops listed) : listed.getD i false = true := by
  obtain ⟨_, oj, hoj, hall⟩ := mem_ready.1 h
  cases b with
  | one ho he hb => rw [ho] at hoj; cases hoj; exact hall _ he hb
  | more ho he hb b => rw [ho] at hoj; cases hoj; exact c.before b (hall _ he hb)
theorem Closed.set {listed : Array Bool} (c : Closed ops listed) {i : Nat} (h : i ∈ Region.ready .any ops listed) : Closed ops (listed.setIfInBounds i true) := by
  have up : ∀ k, listed.getD k false = true → (listed.setIfInBounds i true).getD k false = true := fun k hk => by
    by_cases e : i = k
    · subst e
      have : i < listed.size := by
        rcases Nat.lt_or_ge i listed.size with h | h
        · exact h
        · simp [Array.getElem?_eq_none h] at hk
      simp [this]
    · rw [getD_set_ne false e]; exact hk
  obtain ⟨_, oi, hoi, hall⟩ := mem_ready.1 h
  intro j oj hoj hj e he hb
  by_cases hij : i = j
  · subst hij
    rw [hoi] at hoj; cases hoj
    exact up _ (hall e he hb)
  · rw [getD_set_ne false hij] at hj
    exact up _ (c j oj hoj hj e he hb)
theorem Closed.start : Closed ops (Array.replicate ops.size false) := fun j oj _ h => by
  simp [Array.getElem?_replicate] at h
  split at h <;> simp_all
def beforeB (ops : Array Oper) : Nat → Nat → Nat → Bool
  | 0, _, _ => false
  | f + 1, i, j => match ops[j]? with
    | none => false
    | some oj => oj.after.any (fun e => Region.binds .any e && e.on == i) || oj.after.any (fun e => Region.binds .any e && beforeB ops f i e.on)
theorem beforeB_ok : ∀ {f i j : Nat}, beforeB ops f i j = true → Before ops i j
  | f + 1, i, j, h => by
    unfold beforeB at h
    split at h
    · cases h
    · rename_i oj ho
      rw [Bool.or_eq_true] at h
      rcases h with h | h
      · obtain ⟨e, he, hb⟩ := Array.any_eq_true'.1 h
        simp only [Bool.and_eq_true, beq_iff_eq] at hb
        rw [← hb.2]; exact .one ho he hb.1
      · obtain ⟨e, he, hb⟩ := Array.any_eq_true'.1 h
        simp only [Bool.and_eq_true] at hb
        exact .more ho he hb.1 (beforeB_ok hb.2)
/-- each operation from number n on waits for all of the first n -/
def tailB (ops : Array Oper) (n : Nat) : Bool := (List.range ops.size).all fun j => Nat.blt j n || (List.range n).all fun i => beforeB ops ops.size i j
/-- each operation from number n on waits for number i -/
def tailI (ops : Array Oper) (n i : Nat) : Bool := (List.range ops.size).all fun j => Nat.blt j n || beforeB ops ops.size i j
theorem tailI_ok {i : Nat} (h : tailI ops n i = true) {listed : Array Bool} (c : Closed ops listed) (hu : listed.getD i true = false) {j : Nat} (hj : j ∈ Region.ready .any ops listed) : j < n := by
  rcases Nat.lt_or_ge j n with h' | h'
  · exact h'
  · obtain ⟨_, oj, hoj, _⟩ := mem_ready.1 hj
    have hlt := (Array.getElem?_eq_some_iff.1 hoj).1
    simp only [tailI, List.all_eq_true, List.mem_range, Bool.or_eq_true] at h
    rcases h j hlt with h1 | h1
    · simp [Nat.blt_eq] at h1; omega
    · have := ready_before c (beforeB_ok h1) hj
      rcases Nat.lt_or_ge i listed.size with h2 | h2
      · simp [h2] at hu this; rw [hu] at this; cases this
      · simp [Array.getElem?_eq_none h2] at hu
/-- the first n have all come up -/
def phB (listed : Array Bool) (n : Nat) : Bool := (List.range n).all fun i => listed.getD i true
theorem phB_set {listed : Array Bool} {n k : Nat} (h : phB listed n = true) : phB (listed.setIfInBounds k true) n = true := by
  simp only [phB, List.all_eq_true, List.mem_range] at h ⊢
  intro i hi
  by_cases hik : k = i
  · subst hik
    have := h k hi
    rcases Nat.lt_or_ge k listed.size with h1 | h1
    · simp [h1]
    · rwa [Array.setIfInBounds_eq_of_size_le h1]
  · rw [getD_set_ne true hik]; exact h i hi
theorem phB_ready {listed : Array Bool} (h : phB listed n = true) {i : Nat} (hi : i ∈ Region.ready .any ops listed) : Nat.blt i n = false := by
  rcases Nat.lt_or_ge i n with h1 | h1
  · simp only [phB, List.all_eq_true, List.mem_range] at h
    have := (mem_ready.1 hi).1
    rw [h i h1] at this; cases this
  · cases hb : Nat.blt i n
    · rfl
    · simp [Nat.blt_eq] at hb; omega
theorem wpB_flag {h h' : Bool} : ∀ (fuel : Nat) (listed : Array Bool) (a : Act) (w : World), phB listed n = true → wpB P ops Q S n h fuel listed a w → wpB P ops Q S n h' fuel listed a w
  | 0, _, _, _, _, x => x
  | fuel + 1, listed, a, w, hp, x => ⟨x.1, fun i hi => by
    have e := phB_ready hp hi
    have := x.2 i hi
    rw [e, Bool.and_false] at this
    rw [e, Bool.and_false]
    exact this⟩

/-- An operation that yields its value wherever R holds may be taken first: if R holds as long as it is pending. -/
theorem wpB_first {R : World → Prop} {i : Nat} {oi : Oper} {v : Value} (hi : ops[i]? = some oi) (hsel : ∀ (j : Nat) (o : Oper) cs b, ops[j]? = some o → o.op ≠ .select cs b)
    (hQ : ∀ c a w, Q (.panic c) (a.put oi.dst v) w → Q (.panic c) a w) :
    ∀ (fuel : Nat) (h : Bool) (listed : Array Bool) (a : Act) (w : World), (h = false ∨ i < n) → ((∀ w, R w) ∨ (h = true ∧ tailI ops n i = true ∧ ∀ w, S w → R w)) → Closed ops listed →
      (∀ j oj, ops[j]? = some oj → j ≠ i → listed.getD j true = false → (∀ e ∈ oj.after, Region.binds .any e = true → e.on ≠ i) → oi.apart ops oj = true) →
      i ∈ Region.ready .any ops listed → YieldsIf P ops R oi v a → R w → (h = true → S w) →
      wpB P ops Q S n h fuel (listed.setIfInBounds i true) (a.put oi.dst v) w → wpB P ops Q S n h (fuel + 1) listed a w := by
  have hflag : ∀ h : Bool, (h = false ∨ i < n) → (h && Nat.blt i n) = h := fun h hh => by
    rcases hh with rfl | hh
    · rfl
    · have : Nat.blt i n = true := by simpa [Nat.blt_eq] using hh
      rw [this, Bool.and_true]
  intro fuel
  induction fuel with
  | zero =>
    intro h listed a w hh _ hc _ hr hy hRw hS H
    refine ⟨fun h => (by rw [h] at hr; cases hr), fun j hj => ?_⟩
    by_cases hji : j = i
    · subst hji; rw [hflag h hh]; exact hy.wpOp hi hRw ⟨hS, H⟩
    · have := ready_mono hj hji
      rw [H.1] at this
      cases this
  | succ fuel ih =>
    intro h listed a w hh hR hc hfree hr hy hRw hS H
    refine ⟨fun h => (by rw [h] at hr; cases hr), fun j hj => ?_⟩
    by_cases hji : j = i
    · subst hji; rw [hflag h hh]; exact hy.wpOp hi hRw ⟨hS, H⟩
    · have h1 := H.2 j (ready_mono hj hji)
      obtain ⟨hjun, oj, hoj, hall⟩ := mem_ready.1 hj
      have hnot : ∀ e ∈ oj.after, Region.binds .any e = true → e.on ≠ i := fun e he hb heq => by
        have h1 := hall e he hb
        have h0 := (mem_ready.1 hr).1
        rw [heq] at h1
        rcases Nat.lt_or_ge i listed.size with h' | h'
        · simp [h'] at h0 h1; rw [h0] at h1; cases h1
        · simp [Array.getElem?_eq_none h'] at h1
      have h2 := wpOp_putIf hoj (hfree j oj hoj hji hjun hnot) (fun cs b => hsel i oi cs b hi) (fun cs b => hsel j oj cs b hoj) hQ hy h1
      have hfree' : ∀ k ok, ops[k]? = some ok → k ≠ i → (listed.setIfInBounds j true).getD k true = false →
          (∀ e ∈ ok.after, Region.binds .any e = true → e.on ≠ i) → oi.apart ops ok = true := fun k ok hk hki hun hno => by
        refine hfree k ok hk hki ?_ hno
        by_cases hjk : j = k
        · subst hjk; exact hjun
        · rw [getD_set_ne true hjk] at hun; exact hun
      have hjn : tailI ops n i = true → Nat.blt j n = true := fun ht => by
        simpa [Nat.blt_eq] using tailI_ok ht hc (mem_ready.1 hr).1 hj
      refine wpOp_mono (fun a' w' h3 => ⟨h3.2.1, ih (h && Nat.blt j n) (listed.setIfInBounds j true) a' w' ?_ ?_ (hc.set hj) hfree' (ready_mono hr (Ne.symm hji)) h3.1 ?_ h3.2.1 ?_⟩) h2
      · rcases hh with rfl | hh
        · exact .inl rfl
        · exact .inr hh
      · rcases hR with hR | ⟨e, ht, hR⟩
        · exact .inl hR
        · exact .inr ⟨by rw [e, hjn ht]; rfl, ht, hR⟩
      · rcases hR with hR | ⟨e, ht, hR⟩
        · exact hR _
        · exact hR _ (h3.2.1 (by rw [e, hjn ht]; rfl))
      · rw [Array.setIfInBounds_comm _ _ hji]
        exact h3.2.2
/-- likewise, also where the first n have all come up -/
theorem wpB_pure {R : World → Prop} {i : Nat} {oi : Oper} {v : Value} {h : Bool} {listed : Array Bool} (hH : (!h || Nat.blt i n || phB listed n) = true) (hi : ops[i]? = some oi) (hsel : ∀ (j : Nat) (o : Oper) cs b, ops[j]? = some o → o.op ≠ .select cs b)
    (hQ : ∀ c a w, Q (.panic c) (a.put oi.dst v) w → Q (.panic c) a w) (hR : ∀ w, R w) (fuel : Nat) (a : Act) (w : World) (hc : Closed ops listed)
    (hfree : ∀ j oj, ops[j]? = some oj → j ≠ i → listed.getD j true = false → (∀ e ∈ oj.after, Region.binds .any e = true → e.on ≠ i) → oi.apart ops oj = true)
    (hr : i ∈ Region.ready .any ops listed) (hy : YieldsIf P ops R oi v a) (hS : h = true → S w) (H : wpB P ops Q S n h fuel (listed.setIfInBounds i true) (a.put oi.dst v) w) : wpB P ops Q S n h (fuel + 1) listed a w := by
  simp only [Bool.or_eq_true] at hH
  rcases hH with (hH | hH) | hH
  · exact wpB_first hi hsel hQ fuel h listed a w (.inl (by simpa using hH)) (.inl hR) hc hfree hr hy (hR w) hS H
  · exact wpB_first hi hsel hQ fuel h listed a w (.inr (by simpa [Nat.blt_eq] using hH)) (.inl hR) hc hfree hr hy (hR w) hS H
  · exact wpB_flag (h := false) _ _ _ _ hH (wpB_first hi hsel hQ fuel false listed a w (.inl rfl) (.inl hR) hc hfree hr hy (hR w) (fun e => nomatch e) (wpB_flag (h := h) _ _ _ _ (phB_set hH) H))
end

/-- A region whose order the tape picks: so many of its operations have come up. 'S': what its loads lean on, as long as one of the first n is to come. 'hd': S is known to hold now. -/
structure WH (G : Ctx) (N : Nat) (ops : Array Oper) (n : Nat) (S : List Assn) (hd : Bool) (fuel : Nat) (listed : Array Bool) (env : Env) (L : List Assn) (k : Kont) : Prop where
  go : ∀ a w, Agree N env a → Sat L w → (hd = true → Sat S w) → Closed ops listed → wpB G.P ops (lift N k) (Sat S) n hd fuel listed a w
instance (G : Ctx) (N : Nat) (ops : Array Oper) (n : Nat) (S : List Assn) (hd : Bool) (fuel : Nat) (listed : Array Bool) (env : Env) (L : List Assn) (k : Kont) : CoeFun (WH G N ops n S hd fuel listed env L k) (fun _ => ∀ a w, Agree N env a → Sat L w → (hd = true → Sat S w) → Closed ops listed → wpB G.P ops (lift N k) (Sat S) n hd fuel listed a w) := ⟨WH.go⟩
section
variable {G : Ctx} {N : Nat} {env : Env} {L S : List Assn} {k : Kont} {n : Nat} {fuel : Nat} {listed : Array Bool} {hd : Bool}
theorem WC.regionE {id : Nat} {l : List Oper} (n m : Nat) (S : List Assn) (hm : l.length = m) (hS : Imp L S) (h : WH G N l.toArray n S true m (Array.replicate m false) env L k) : WC G N (.region id l.toArray true) env L k := .mk fun a w ha hs =>
  wp_region_any G.mixed (wpAny_of_B true _ _ _ _ (by
    subst hm
    have hs' : Sat L { w with drawn := w.drawn + 1 } := hs
    have := h a _ ha hs' (fun _ => hS.sat hs') (by have := Closed.start (ops := l.toArray); simpa using this)
    simpa using this))
theorem WC.regionD {id : Nat} {l : List Oper} (n m : Nat) (S : List Assn) (hm : l.length = m) (_ : tailB l.toArray n = true) (hS : Imp L S) (h : WH G N l.toArray n S true m (Array.replicate m false) env L k) : WC G N (.region id l.toArray true) env L k := .regionE n m S hm hS h
variable {l : List Oper} {o : Oper}
theorem WH.done (hr : Region.ready .any l.toArray listed = []) (h : k .normal env L) : WH G N l.toArray n S hd fuel listed env L k := .mk fun a w ha hs _ _ => by
  have : lift N k .normal a w := ⟨env, L, ha, hs, h⟩
  cases fuel with
  | zero => exact ⟨hr, this⟩
  | succ f => exact ⟨fun _ => this, by rw [hr]; simp⟩
theorem noPanic (hk : ∀ c env L, ¬ k (.panic c) env L) (c : List PanicEntry) (a : Act) (w : World) (d : Option Tmp) (v : Value) : lift N k (.panic c) (a.put d v) w → lift N k (.panic c) a w := fun ⟨_, _, _, _, h⟩ => (hk _ _ _ h).elim
/-- take operation number i: it only computes -/
theorem WH.pure (i : Nat) {d : Nat} {nw : Bool} {c : Option Prop} {v : Value} (hi : l.toArray[i]? = some o) (hg : o.guard = none) (hs : Region.noSelect l.toArray = true) (hf : Region.free .any l.toArray listed i = true) (hr : (Region.ready .any l.toArray listed).contains i = true)
    (hk : ∀ c env L, ¬ k (.panic c) env L) (hH : (!hd || Nat.blt i n || phB listed n) = true) (he : ev G.T nw none env o.op = some (c, v)) (hc : Holds c) (hdst : o.dst = some d) (hN : Nat.blt d N = true)
    (h : WH G N l.toArray n S hd fuel (listed.setIfInBounds i true) ((d, .val v) :: env) L k) : WH G N l.toArray n S hd (fuel + 1) listed env L k := .mk fun a w ha hsat hS hcl => by
  have hri : i ∈ Region.ready .any l.toArray listed := by simpa using hr
  refine wpB_pure (R := fun _ => True) hH hi (Region.noSelect_spec hs) (fun c a w => noPanic hk c a w _ _) (fun _ => trivial) fuel a w hcl (Region.free_spec hi hf) hri
    (.inl ⟨by simp [Region.wanted, hg], fun w _ => ev_ok G.ok he hc trivial ha w⟩) hS ?_
  · rw [hdst]; exact h _ w (ha.put hN v) hsat hS (hcl.set hri)
/-- take operation number i, which is guarded and only computes -/
theorem WH.guarded (i : Nat) {j t d : Nat} {want q nw : Bool} {oj : Oper} {c : Option Prop} {v : Value} (hi : l.toArray[i]? = some o) (hg : o.guard = some (j, want)) (hj : l.toArray[j]? = some oj) (hjt : oj.dst = some t) (hq : gdOf env t want = some q)
    (hs : Region.noSelect l.toArray = true) (hf : Region.free .any l.toArray listed i = true) (hr : (Region.ready .any l.toArray listed).contains i = true)
    (hk : ∀ c env L, ¬ k (.panic c) env L) (hH : (!hd || Nat.blt i n || phB listed n) = true) (he : ev G.T nw (some q) env o.op = some (c, v)) (hc : Holds c) (hdst : o.dst = some d) (hN : Nat.blt d N = true)
    (h : WH G N l.toArray n S hd fuel (listed.setIfInBounds i true) ((d, .grd q v) :: env) L k) : WH G N l.toArray n S hd (fuel + 1) listed env L k := .mk fun a w ha hsat hS hcl => by
  have hri : i ∈ Region.ready .any l.toArray listed := by simpa using hr
  have hw := gdOf_ok (ops := l.toArray) ha hq hj hjt hg
  refine wpB_pure (R := fun _ => True) (v := bif q then v else undef) hH hi (Region.noSelect_spec hs) (fun c a w => noPanic hk c a w _ _) (fun _ => trivial) fuel a w hcl (Region.free_spec hi hf) hri ?_ hS ?_
  · cases q with
    | true => exact .inl ⟨hw, fun w _ => ev_ok G.ok he hc rfl ha w⟩
    | false => exact .inr ⟨hw, rfl⟩
  · rw [hdst]; exact h _ w (ha.grd hN rfl) hsat hS (hcl.set hri)
theorem run_load1 {P : Program} {T : Tab} (hT : T.ok P) {t : TypeId} {x : Operand} {b off : Nat} {ti : TI} {v : Value} {a : Act} {w : World} (ho : o.op = .load t x) (hx : a.eval x = .pointer (some ⟨b, off, none⟩)) (ht : T.find t = some ti) (hg : ti.agg = false)
    (hv : cellAt b off v (hpOf w)) : (execOp a.eval o).run P w = .ok (.value v) w := by
  have e := Tab.find_ok hT ht
  rw [execOp, ho]
  refine val_run ?_
  have hc := cell_of_cellAt hv
  simp [Instr.loadAt, hx, Instr.sureAddr, loadVar, run_isAgg e, hg, hc]
theorem run_loadA {P : Program} {T : Tab} (hT : T.ok P) {t : TypeId} {x : Operand} {b off : Nat} {ti : TI} {l : List Value} {a : Act} {w : World} (ho : o.op = .load t x) (hx : a.eval x = .pointer (some ⟨b, off, none⟩)) (ht : T.find t = some ti) (hg : ti.agg = true)
    (hv : cellsAt b off l (hpOf w)) (hl : l.length = ti.size) : (execOp a.eval o).run P w = .ok (.value (.agg l.toArray)) w := by
  have e := Tab.find_ok hT ht
  rw [execOp, ho]
  refine val_run ?_
  have hc := run_cells (P := P) hv l.length 0 #[] (by omega)
  simp only [List.drop_zero, Array.empty_append] at hc
  simp [Instr.loadAt, hx, Instr.sureAddr, loadVar, run_isAgg e, hg, run_size e, loadCells, ← hl, hc]
/-- what a load reads -/
def Loads (S : List Assn) (ti : TI) (b off : Nat) (v : Value) : Prop := (ti.agg = false ∧ Ent S (cellAt b off v)) ∨ (ti.agg = true ∧ ∃ l, v = .agg l.toArray ∧ l.length = ti.size ∧ Ent S (cellsAt b off l))
theorem loads_cut {ti : TI} {b off n : Nat} {l : List Value} (hg : ti.agg = true) (hn : sizeL ti = some n) (h : HasCut S b off n l) : Loads S ti b off (.agg l.toArray) := .inr ⟨hg, l, rfl, h.ent.2.trans (sizeL_eq hn).symm, h.ent.1⟩
theorem run_loads {P : Program} {T : Tab} (hT : T.ok P) {t : TypeId} {x : Operand} {b off : Nat} {ti : TI} {v : Value} {a : Act} {w : World} (ho : o.op = .load t x) (hx : a.eval x = .pointer (some ⟨b, off, none⟩)) (ht : T.find t = some ti)
    (hv : Loads S ti b off v) (hs : Sat S w) : (execOp a.eval o).run P w = .ok (.value v) w := by
  rcases hv with ⟨hg, h⟩ | ⟨hg, l, rfl, hl, h⟩
  · exact run_load1 hT ho hx ht hg (h _ hs)
  · exact run_loadA hT ho hx ht hg (h _ hs) hl
/-- take operation number i: a load of what S tells -/
theorem WH.load (i : Nat) {d : Nat} {t : TypeId} {x : Operand} {b off : Nat} {ti : TI} {v : Value} (hi : l.toArray[i]? = some o) (hg : o.guard = none) (hs : Region.noSelect l.toArray = true) (hf : Region.free .any l.toArray listed i = true) (hr : (Region.ready .any l.toArray listed).contains i = true)
    (hk : ∀ c env L, ¬ k (.panic c) env L) (hin : (Nat.blt i n && tailI l.toArray n i) = true) (ho : o.op = .load t x) (hx : rd none env x = some (none, .pointer (some ⟨b, off, none⟩))) (hti : G.T.find t = some ti) (hv : Loads S ti b off v) (hdst : o.dst = some d) (hN : Nat.blt d N = true)
    (h : WH G N l.toArray n S true fuel (listed.setIfInBounds i true) ((d, .val v) :: env) L k) : WH G N l.toArray n S true (fuel + 1) listed env L k := .mk fun a w ha hsat hS hcl => by
  have hri : i ∈ Region.ready .any l.toArray listed := by simpa using hr
  have hin' : i < n := by simp only [Bool.and_eq_true] at hin; simpa [Nat.blt_eq] using hin.1
  have htl : tailI l.toArray n i = true := by simp only [Bool.and_eq_true] at hin; exact hin.2
  refine wpB_first (R := Sat S) hi (Region.noSelect_spec hs) (fun c a w => noPanic hk c a w _ _) fuel true listed a w (.inr hin') (.inr ⟨rfl, htl, fun _ h => h⟩) hcl (Region.free_spec hi hf) hri
    (.inl ⟨by simp [Region.wanted, hg], fun w hw => run_loads G.ok ho (rd_plain hx ha) hti hv hw⟩) (hS rfl) (fun _ => hS rfl) ?_
  rw [hdst]; exact h _ w (ha.put hN v) hsat hS (hcl.set hri)
/-- a guarded load -/
theorem WH.loadG (i : Nat) {j jt d : Nat} {want q : Bool} {oj : Oper} {t : TypeId} {x : Operand} {b off : Nat} {ti : TI} {v : Value} {c : Option Prop} (hi : l.toArray[i]? = some o) (hg : o.guard = some (j, want)) (hj : l.toArray[j]? = some oj) (hjt : oj.dst = some jt) (hq : gdOf env jt want = some q)
    (hs : Region.noSelect l.toArray = true) (hf : Region.free .any l.toArray listed i = true) (hr : (Region.ready .any l.toArray listed).contains i = true)
    (hk : ∀ c env L, ¬ k (.panic c) env L) (hin : (Nat.blt i n && tailI l.toArray n i) = true) (ho : o.op = .load t x) (hx : rd (some q) env x = some (c, .pointer (some ⟨b, off, none⟩))) (hc : Holds c) (hti : G.T.find t = some ti) (hv : q = true → Loads S ti b off v) (hdst : o.dst = some d) (hN : Nat.blt d N = true)
    (h : WH G N l.toArray n S true fuel (listed.setIfInBounds i true) ((d, .grd q v) :: env) L k) : WH G N l.toArray n S true (fuel + 1) listed env L k := .mk fun a w ha hsat hS hcl => by
  have hri : i ∈ Region.ready .any l.toArray listed := by simpa using hr
  have hin' : i < n := by simp only [Bool.and_eq_true] at hin; simpa [Nat.blt_eq] using hin.1
  have htl : tailI l.toArray n i = true := by simp only [Bool.and_eq_true] at hin; exact hin.2
  have hw := gdOf_ok (ops := l.toArray) ha hq hj hjt hg
  refine wpB_first (R := Sat S) (v := bif q then v else undef) hi (Region.noSelect_spec hs) (fun c a w => noPanic hk c a w _ _) fuel true listed a w (.inr hin') (.inr ⟨rfl, htl, fun _ h => h⟩) hcl (Region.free_spec hi hf) hri ?_ (hS rfl) (fun _ => hS rfl) ?_
  · cases q with
    | true => exact .inl ⟨hw, fun w hw => run_loads G.ok ho (rd_ok ha hx hc rfl) hti (hv rfl) hw⟩
    | false => exact .inr ⟨hw, rfl⟩
  rw [hdst]; exact h _ w (ha.grd hN rfl) hsat hS (hcl.set hri)
/-- the one operation that may come up now -/
theorem WH.only (i : Nat) {hd' : Bool} (hi : l.toArray[i]? = some o) (hg : o.guard = none) (hr : Region.ready .any l.toArray listed = [i]) (hb : hd' = (hd && Nat.blt i n))
    (h : OP G N o env L (fun e M => (hd' = true → Imp M S) ∧ WH G N l.toArray n S hd' fuel (listed.setIfInBounds i true) e M k)) : WH G N l.toArray n S hd (fuel + 1) listed env L k := .mk fun a w ha hsat hS0 hcl => by
  have hri : i ∈ Region.ready .any l.toArray listed := by rw [hr]; simp
  refine ⟨fun h0 => (by rw [hr] at h0; cases h0), fun j hj => ?_⟩
  rw [hr] at hj
  simp only [List.mem_singleton] at hj
  subst hj
  unfold wpOp
  rw [hi]
  simp only []
  rw [if_pos (by simp [Region.wanted, hg])]
  refine .inl (wp_oper_mono ?_ (fun _ _ _ h => h.elim) (h a w ha hsat))
  rintro a' w' ⟨e, M, x, y, z1, z2⟩
  subst hb
  exact ⟨fun hlt => (z1 hlt).sat y, z2 a' w' x y (fun e => (z1 e).sat y) (hcl.set hri)⟩
/-- likewise, where its guard says no or yes -/
theorem WH.onlyG (i : Nat) {hd' : Bool} {j t d : Nat} {want q : Bool} {oj : Oper} (hi : l.toArray[i]? = some o) (hg : o.guard = some (j, want)) (hj : l.toArray[j]? = some oj) (hjt : oj.dst = some t) (hq : gdOf env t want = some q) (hdst : o.dst = some d) (hN : Nat.blt d N = true)
    (hr : Region.ready .any l.toArray listed = [i]) (hb : hd' = (hd && Nat.blt i n)) (_ : hd = true ∨ hd' = false)
    (h1 : q = true → OP G N o env L (fun e M => (hd' = true → Imp M S) ∧ WH G N l.toArray n S hd' fuel (listed.setIfInBounds i true) e M k))
    (h2 : q = false → WH G N l.toArray n S hd' fuel (listed.setIfInBounds i true) ((d, .val undef) :: env) L k) : WH G N l.toArray n S hd (fuel + 1) listed env L k := .mk fun a w ha hsat hS hcl => by
  have hri : i ∈ Region.ready .any l.toArray listed := by rw [hr]; simp
  have hw := gdOf_ok (ops := l.toArray) ha hq hj hjt hg
  refine ⟨fun h0 => (by rw [hr] at h0; cases h0), fun j' hj' => ?_⟩
  rw [hr] at hj'
  simp only [List.mem_singleton] at hj'
  subst hj'
  unfold wpOp
  rw [hi]
  simp only []
  rw [hw]
  cases q with
  | true =>
    rw [if_pos rfl]
    refine .inl (wp_oper_mono ?_ (fun _ _ _ h => h.elim) (h1 rfl a w ha hsat))
    rintro a' w' ⟨e, M, x, y, z1, z2⟩
    subst hb
    exact ⟨fun hlt => (z1 hlt).sat y, z2 a' w' x y (fun e => (z1 e).sat y) (hcl.set hri)⟩
  | false =>
    rw [if_neg (by simp), hdst]
    subst hb
    have hS' : (hd && Nat.blt j' n) = true → Sat S w := fun e => hS (by cases hd <;> simp_all)
    exact ⟨hS', h2 rfl _ w (ha.put hN _) hsat hS' (hcl.set hri)⟩
end
end Go.GL
/- Slices that own their block, slices that are read; append, string and bytes. -/
namespace Go.GL
open Go

/-- The slice (a, n, cap) reads as these cells. -/
def readS (a : Option Addr) (n size : Nat) (cs : List Value) : Assn := fun h =>
  cs.length = n * size ∧ ((a = none ∧ n = 0) ∨ ∃ b off, a = some ⟨b, off, none⟩ ∧ cellsAt b off cs h)
theorem up_readS (a : Option Addr) (n size : Nat) (cs : List Value) : Up (readS a n size cs) := fun h k le ⟨e, x⟩ => ⟨e, x.imp id fun ⟨b, off, e, c⟩ => ⟨b, off, e, up_cellsAt _ _ _ h k le c⟩⟩
/-- The slice (a, n, cap), whose block is its own, holds these cells. -/
def ownS (a : Option Addr) (n cap : Nat) (T : TypeId) (size : Nat) (cs : List Value) : Assn := fun h =>
  cs.length = n * size ∧ n ≤ cap ∧ ((a = none ∧ cap = 0) ∨ ∃ b pre post, a = some ⟨b, pre.length, none⟩ ∧ cap * size ≤ cs.length + post.length ∧ blk b (pre ++ cs ++ post) T h)
theorem cells_mid {b : Nat} {pre cs post : List Value} {T : TypeId} {h : Hp} (x : blk b (pre ++ cs ++ post) T h) : cellsAt b pre.length cs h := by
  obtain ⟨fr, hb, _⟩ := x
  refine ⟨_, T, fr, hb, fun i v hi => ?_⟩
  have hlt : i < cs.length := (List.getElem?_eq_some_iff.1 hi).1
  simp only [List.getElem?_toArray]
  rw [List.append_assoc, List.getElem?_append_right (by omega), List.getElem?_append_left (by omega)]
  simpa using hi
theorem read_of_own {a : Option Addr} {n cap : Nat} {T : TypeId} {size : Nat} {cs : List Value} {h : Hp} (x : ownS a n cap T size cs h) : readS a n size cs h := by
  obtain ⟨e, le, ⟨rfl, rfl⟩ | ⟨b, pre, post, rfl, _, x⟩⟩ := x
  · exact ⟨e, .inl ⟨rfl, by omega⟩⟩
  · exact ⟨e, .inr ⟨b, _, rfl, cells_mid x⟩⟩
theorem up_ownS (a : Option Addr) (n cap : Nat) (T : TypeId) (size : Nat) (cs : List Value) : Up (ownS a n cap T size cs) := fun h k le ⟨e, l, x⟩ =>
  ⟨e, l, x.imp id fun ⟨b, pre, post, e, c, y⟩ => ⟨b, pre, post, e, c, up_blk _ _ _ h k le y⟩⟩
theorem Ent.own {L : List Assn} {a : Option Addr} {n cap : Nat} {T : TypeId} {size : Nat} {cs : List Value} (m : ownS a n cap T size cs ∈ L) : Ent L (readS a n size cs) :=
  Ent.mem m (up_ownS _ _ _ _ _ _) fun _ x => read_of_own x
theorem ownS_nil (T : TypeId) (size : Nat) (h : Hp) : ownS none 0 0 T size [] h := ⟨by simp, Nat.le_refl _, .inl ⟨rfl, rfl⟩⟩

theorem Imp.nilS {L : List Assn} (T : TypeId) (size : Nat) : Imp L (ownS none 0 0 T size [] :: L) := fun h s => ⟨Hp.empty, h, fun _ => .inl rfl, by funext b; simp [Hp.join, Hp.empty], ownS_nil _ _ _, s⟩
theorem setOne_lt {c : List Value} {n : Nat} (v : Value) (h : n < c.length) : setOne c n v = some (c.set n v) := by
  induction c generalizing n with
  | nil => simp at h
  | cons x r ih =>
    cases n with
    | zero => rfl
    | succ n => simp only [setOne, ih (by simpa using h), List.set_cons_succ]
theorem setMany_mid : ∀ (vs pre old post : List Value), old.length = vs.length → setMany (pre ++ old ++ post) pre.length vs = some (pre ++ vs ++ post)
  | [], pre, old, post, h => by
    have : old = [] := List.length_eq_zero_iff.1 h
    subst this; rfl
  | v :: vs, pre, [], post, h => by simp at h
  | v :: vs, pre, o :: old, post, h => by
    have h1 : setOne (pre ++ o :: old ++ post) pre.length v = some (pre ++ v :: old ++ post) := by
      rw [setOne_lt _ (by simp)]
      simp
    have h2 := setMany_mid vs (pre ++ [v]) old post (by simpa using h)
    simp only [List.length_append, List.length_singleton, List.append_assoc, List.cons_append, List.nil_append] at h2
    simp only [List.append_assoc, List.cons_append] at h1
    simp only [setMany, List.append_assoc, List.cons_append, h1]
    exact h2

/-- Cells of a slice that is read are loaded. -/
theorem run_firstCells {P : Program} {w : World} {a : Option Addr} {n size c : Nat} {cs : List Value} (h : readS a n size cs (hpOf w)) : (Builtin.firstCells size n (.slice a n c)).run P w = .ok cs.toArray w := by
  obtain ⟨e, ⟨rfl, rfl⟩ | ⟨b, off, rfl, hc⟩⟩ := h
  · have : cs = [] := List.length_eq_zero_iff.1 (by simpa using e)
    subst this
    simp [Builtin.firstCells]
  · have := run_cells (P := P) hc cs.length 0 #[] (by omega)
    simp only [List.drop_zero, Array.empty_append] at this
    simp only [Builtin.firstCells, loadCells, ← e, this]
theorem nextcap_le (need old : Nat) (h : old < need) : Builtin.nextslicecap need old ≤ 2 * need := by
  unfold Builtin.nextslicecap
  split
  · omega
  · split
    · omega
    · have key : ∀ (r c : Nat), c ≤ 2 * need → Builtin.growBy need r c ≤ 2 * need := by
        intro r
        induction r with
        | zero => intro c hc; exact hc
        | succ r ih =>
          intro c hc
          unfold Builtin.growBy
          split
          · exact hc
          · exact ih _ (by omega)
      exact key _ _ (by omega)

section
variable {G : Ctx} {P : Program}
/-- What append is told to append: so many elements, these cells. -/
def Appends (P : Program) (t2 : TypeId) (y : Value) (m size : Nat) (ds : List Value) (w : World) : Prop :=
  ((∃ e, P.underlying t2 = some (.slice e)) ∨ P.underlying t2 = some .string) ∧ ds.length = m * size ∧ (Builtin.lenOf y).run P w = .ok m w ∧ (Builtin.firstCells size m y).run P w = .ok ds.toArray w
theorem run_append {T : Tab} (hT : T.ok P) {t t2 e ty : TypeId} {ti tsl : TI} {a : Option Addr} {n cap m : Nat} {cs ds : List Value} {y : Value} {F : List Assn} {w : World}
    (ht : T.find t = some tsl) (htd : tsl.desc = .slice e) (hte : T.find e = some ti) (hs : Sat (ownS a n cap e ti.size cs :: F) w)
    (hy : ∀ w', hpOf w' = hpOf w → Appends P t2 y m ti.size ds w') (hone : allOne ds = true) (hb : (n + m) * ti.bytes ≤ 140737488355328) (hmax : n + m ≤ 9223372036854775807) :
    ∃ a' cap' w', (Builtin.append_ #[t, t2] ty #[.slice a n cap, y]).run P w = .ok (.slice a' (n + m) cap') w' ∧ Sat (ownS a' (n + m) cap' e ti.size (cs ++ ds) :: F) w' := by
  have eT := Tab.find_ok hT ht
  have eE := Tab.find_ok hT hte
  have hu : P.underlying t = some (.slice e) := htd ▸ eT.desc
  obtain ⟨ht2, hlen, hl, hf⟩ := hy w rfl
  obtain ⟨h1, h2, d, e', hown, rest⟩ := hs
  obtain ⟨hcl, hle, hown⟩ := hown
  by_cases hroom : n + m ≤ cap
  · -- there is room
    rcases hown with ⟨rfl, rfl⟩ | ⟨b, pre, post, rfl, hcap, hblk⟩
    · have hn : n = 0 := by omega
      have hm : m = 0 := by omega
      subst hn hm
      have hds : ds = [] := List.length_eq_zero_iff.1 (by simpa using hlen)
      have hcs : cs = [] := List.length_eq_zero_iff.1 (by simpa using hcl)
      subst hds hcs
      refine ⟨none, 0, w, ?_, ⟨h1, h2, d, e', ⟨by simp, Nat.le_refl _, .inl ⟨rfl, rfl⟩⟩, rest⟩⟩
      rcases ht2 with ⟨e2, ht2⟩ | ht2 <;> simp [Builtin.append_, run_underlying hu, run_underlying ht2, run_size eE, hl, hf]
    · have hpost : ds.length ≤ post.length := by
        have : (n + m) * ti.size ≤ cap * ti.size := Nat.mul_le_mul_right _ hroom
        rw [Nat.add_mul] at this
        omega
      have hs' : Sat (blk b (pre ++ cs ++ post) e :: F) w := ⟨h1, h2, d, e', hblk, rest⟩
      have hsplit : pre ++ cs ++ post = (pre ++ cs) ++ post.take ds.length ++ post.drop ds.length := by simp
      have hset := setMany_mid ds (pre ++ cs) (post.take ds.length) (post.drop ds.length) (by simp [hpost])
      rw [← hsplit] at hset
      obtain ⟨w', r, s⟩ := run_stores (P := P) ds (pre ++ cs).length 0 (pre ++ cs ++ post) (pre ++ cs ++ ds ++ post.drop ds.length) _ _ w (allOne_mem hone) hset (.here _ _ _ _ _) hs'
      refine ⟨some ⟨b, pre.length, none⟩, cap, w', ?_, ?_⟩
      · have hadd : (⟨b, pre.length, none⟩ : Addr).add (n * ti.size) = ⟨b, (pre ++ cs).length, none⟩ := by rw [addr_add, ← hcl]; simp
        have r' := r
        simp only [List.length_append] at r'
        rcases ht2 with ⟨e2, ht2⟩ | ht2 <;> simp [Builtin.append_, run_underlying hu, run_underlying ht2, run_size eE, hl, hf, hroom, hadd, r']
      · refine stars_head_mono (A := blk b (pre ++ cs ++ ds ++ post.drop ds.length) e) (fun k hk => ?_) s
        refine ⟨by rw [List.length_append, hcl, hlen, Nat.add_mul], hroom, .inr ⟨b, pre, post.drop ds.length, rfl, ?_, by rw [← List.append_assoc]; exact hk⟩⟩
        simp only [List.length_append, List.length_drop]; omega
  · -- a new array
    have hro : readS a n ti.size cs (hpOf w) := up_readS _ _ _ _ _ _ (by rw [e']; exact Hp.le_join_left _ _) (read_of_own ⟨hcl, hle, hown⟩)
    have hcapb : ¬ (Builtin.nextslicecap (n + m) cap * ti.bytes > 2 ^ 48) := by
      have h1 := nextcap_le (n + m) cap (by omega)
      have h2 : Builtin.nextslicecap (n + m) cap * ti.bytes ≤ 2 * (n + m) * ti.bytes := Nat.mul_le_mul_right _ h1
      rw [Nat.mul_assoc] at h2
      omega
    have hmax' : ¬ (((n + m : Nat) : Int) > IntKind.i64.max) := by
      simp [IntKind.max, IntKind.signed, IntKind.bits]; omega
    obtain ⟨x, hx, hinfo, hxs, hxb, hxz, _⟩ := run_info eE w
    have hinfo' : ∀ w', (typeInfo e).run P w' = .ok x w' := fun w' => by obtain ⟨x', hx', h', _⟩ := run_info eE w'; rw [hx] at hx'; cases hx'; exact h'
    have hmax2 : ¬ (9223372036854775807 < (n : Int) + (m : Int)) := by omega
    have hw1 : hpOf w.drew = hpOf w := rfl
    have hfo : (Question.appendCap (n + m) cap e).forced = false := rfl
    obtain ⟨cap', hcap', hge⟩ : ∃ cap', (Question.appendCap (n + m) cap e).cut (w.tape w.drawn (Question.appendCap (n + m) cap e)) = cap' ∧ n + m ≤ cap' := ⟨_, rfl, by simp only [Question.cut]; omega⟩
    obtain ⟨_, _, _, hf1⟩ := hy w.drew hw1
    have hro1 : readS a n ti.size cs (hpOf w.drew) := hro
    have hs1 : Sat F w.drew := by unfold Sat; rw [hw1, e']; exact stars_mono (Hp.le_join_right d) rest
    have hzs : (Builtin.zeroCells (zeroOf ti).cells (cap' - (n + m))).size = (cap' - (n + m)) * ti.size := by
      simp [Builtin.zeroCells, eE.zcells, eE.zero]
    have hnew := Sat.new hs1 (cs ++ ds ++ (Builtin.zeroCells (zeroOf ti).cells (cap' - (n + m))).toList) e
    refine ⟨some ⟨w.drew.heap.size, 0, none⟩, cap', _, ?_, stars_head_mono (fun k hk => ⟨by rw [List.length_append, hcl, hlen, Nat.add_mul], hge, .inr ⟨_, [], (Builtin.zeroCells (zeroOf ti).cells (cap' - (n + m))).toList, rfl, ?_, by rw [List.nil_append]; exact hk⟩⟩) hnew⟩
    · have earr : cs.toArray ++ (ds.toArray ++ Builtin.zeroCells (zeroOf ti).cells (cap' - (n + m))) = (cs ++ (ds ++ (Builtin.zeroCells (zeroOf ti).cells (cap' - (n + m))).toList)).toArray := by
        apply Array.ext'; simp
      rcases ht2 with ⟨e2, ht2⟩ | ht2 <;>
        simp [Builtin.append_, run_underlying hu, run_underlying ht2, run_size eE, hl, hroom, hinfo', hxb, hmax2, hcapb, hfo, hcap', hf1, run_firstCells hro1, run_zero eE, newRow, earr] <;> rfl
    · have e1 : (Builtin.zeroCells (zeroOf ti).cells (cap' - (n + m))).toList.length = (cap' - (n + m)) * ti.size := by rw [← hzs]; exact Array.length_toList
      rw [e1, List.length_append, hcl, hlen, ← Nat.add_mul, ← Nat.add_mul]
      exact Nat.mul_le_mul_right _ (by omega)
theorem appends_slice {P : Program} {t2 e : TypeId} (hu : P.underlying t2 = some (.slice e)) {a : Option Addr} {m c size : Nat} {ds : List Value} {w : World} (h : readS a m size ds (hpOf w)) : Appends P t2 (.slice a m c) m size ds w :=
  ⟨.inl ⟨e, hu⟩, h.1, by simp [Builtin.lenOf], run_firstCells h⟩
def byteV (b : UInt8) : Value := .int .u8 b.toNat
def strCells (s : ByteArray) : List Value := s.data.toList.map byteV
theorem appends_string {P : Program} {t2 : TypeId} (hu : P.underlying t2 = some .string) (s : ByteArray) (w : World) : Appends P t2 (.string s) s.size 1 (strCells s) w := by
  refine ⟨.inr hu, by simp [strCells], by simp [Builtin.lenOf], ?_⟩
  simp only [Builtin.firstCells, ByteArray.extract_zero_size, Sem.run_pure]
  congr 1
  apply Array.ext'
  simp [strCells, byteV]

section
variable {N : Nat} {env : Env} {L : List Assn} {o : Oper} {post : Env → List Assn → Prop} {d : Nat}
/-- a type's size and bytes -/
def szL : TI → Option (Nat × Nat)
  | ⟨_, s, b, _, _, _⟩ => some (s, b)
theorem szL_eq {t : TI} {s b : Nat} (h : szL t = some (s, b)) : t.size = s ∧ t.bytes = b := by cases t; simp only [szL, Option.some.injEq, Prod.mk.injEq] at h; exact h
/-- append(s, y...), s owning its block, y another slice. -/
theorem OP.append {x y : Operand} {t t2 e e2 : TypeId} {ti tsl tsl2 : TI} {a a2 : Option Addr} {n cap m c2 sz by_ : Nat} {cs ds : List Value} {F : List Assn} (ho : o.op = .call ⟨.builtin .append, #[x, y], #[t, t2]⟩)
    (hx : rd none env x = some (none, .slice a n cap)) (hy : rd none env y = some (none, .slice a2 m c2)) (ht : G.T.find t = some tsl) (htd : tsl.desc = .slice e) (hte : G.T.find e = some ti) (hsz : szL ti = some (sz, by_)) (ht2 : G.T.find t2 = some tsl2) (htd2 : tsl2.desc = .slice e2)
    (hL : Imp L (ownS a n cap e sz cs :: F)) (hr : Ent L (readS a2 m sz ds)) (hone : allOne ds = true) (hb : (n + m) * by_ ≤ 140737488355328) (hmax : n + m ≤ 9223372036854775807)
    (hd : o.dst = some d) (hN : Nat.blt d N = true) (h : ∀ a' cap', post ((d, .val (.slice a' (n + m) cap')) :: env) (ownS a' (n + m) cap' e sz (cs ++ ds) :: F)) : OP G N o env L post := .mk fun ac w ha hs => by
  obtain ⟨e1, e2⟩ := szL_eq hsz
  have hu2 : G.P.underlying t2 = some (.slice _) := htd2 ▸ (Tab.find_ok G.ok ht2).desc
  obtain ⟨a', cap', w', r, s⟩ := run_append (ty := o.type) (y := .slice a2 m c2) (t2 := t2) G.ok ht htd hte (e1.symm ▸ hL.sat hs) (fun w' e => appends_slice hu2 (e1.symm ▸ e ▸ hr _ hs)) hone (e2.symm ▸ hb) hmax
  unfold Oper.wp
  have : (execOp ac.eval o).run G.P w = .ok (.value (.slice a' (n + m) cap')) w' := by
    rw [execOp, ho]
    simp only [resolve, Sem.run_bind, Sem.run_pure, Result.andThen_ok, invoke, builtin, List.map_toArray, List.map_cons, List.map_nil, rd_plain hx ha, rd_plain hy ha, r]
  rw [this]
  simp only [Oper.upon, hd]
  rw [e1] at s
  exact ⟨_, _, ha.put hN _, s, h a' cap'⟩
theorem OP.appendStr {x y : Operand} {t t2 e : TypeId} {ti tsl tsl2 : TI} {a : Option Addr} {n cap : Nat} {cs : List Value} {sv : ByteArray} {F : List Assn} (ho : o.op = .call ⟨.builtin .append, #[x, y], #[t, t2]⟩)
    (hx : rd none env x = some (none, .slice a n cap)) (hy : rd none env y = some (none, .string sv)) (ht : G.T.find t = some tsl) (htd : tsl.desc = .slice e) (hte : G.T.find e = some ti) (hsz : ti.size = 1) (hby : ti.bytes = 1) (ht2 : G.T.find t2 = some tsl2) (htd2 : tsl2.desc = .string)
    (hL : Imp L (ownS a n cap e 1 cs :: F)) (hb : n + sv.size ≤ 140737488355328)
    (hd : o.dst = some d) (hN : Nat.blt d N = true) (h : ∀ a' cap', post ((d, .val (.slice a' (n + sv.size) cap')) :: env) (ownS a' (n + sv.size) cap' e 1 (cs ++ strCells sv) :: F)) : OP G N o env L post := .mk fun ac w ha hs => by
  have hu2 : G.P.underlying t2 = some .string := htd2 ▸ (Tab.find_ok G.ok ht2).desc
  have hone : allOne (strCells sv) = true := by
    unfold strCells
    generalize sv.data.toList = l
    induction l with
    | nil => rfl
    | cons x r ih => simpa [allOne, one, byteV] using ih
  obtain ⟨a', cap', w', r, s⟩ := run_append (ty := o.type) (y := .string sv) (t2 := t2) (m := sv.size) (ds := strCells sv) (cs := cs) G.ok ht htd hte (by rw [hsz]; exact hL.sat hs) (fun w' _ => by rw [hsz]; exact appends_string hu2 sv w') hone (by rw [hby]; omega) (by omega)
  unfold Oper.wp
  have : (execOp ac.eval o).run G.P w = .ok (.value (.slice a' (n + sv.size) cap')) w' := by
    rw [execOp, ho]
    simp only [resolve, Sem.run_bind, Sem.run_pure, Result.andThen_ok, invoke, builtin, List.map_toArray, List.map_cons, List.map_nil, rd_plain hx ha, rd_plain hy ha, r]
  rw [this]
  simp only [Oper.upon, hd]
  rw [hsz] at s
  exact ⟨_, _, ha.put hN _, s, h a' cap'⟩
end
end
end Go.GL
