/- Contracts of functions of the given program, and plain laws: parts of the proofs of laws. -/
import Derived.WalkKit
import Derived.OrdersHeld
/- Heap assertions: lists of assertions on separate parts of memory; plain laws on them. No program in sight. -/
namespace Go.GL
open Go

/-- What lies at a place: a block of memory; at place 0 what the outside has, and what was printed. -/
inductive GObj
  | obj (o : Obj)
  | ghost (os : Os) (out : Array (Nat × ByteArray))
abbrev Hp := Nat → Option GObj
abbrev Assn := Hp → Prop

def Hp.le (h k : Hp) : Prop := ∀ b o, h b = some o → k b = some o
def Hp.disj (h k : Hp) : Prop := ∀ b, h b = none ∨ k b = none
def Hp.join (h k : Hp) : Hp := fun b => (h b).or (k b)
def Hp.minus (k h : Hp) : Hp := fun b => if (h b).isSome then none else k b
def Hp.empty : Hp := fun _ => none

theorem Hp.le_refl (h : Hp) : Hp.le h h := fun _ _ e => e
theorem Hp.le_trans {h k l : Hp} (a : Hp.le h k) (b : Hp.le k l) : Hp.le h l := fun x o e => b x o (a x o e)
theorem Hp.le_join_left (h k : Hp) : Hp.le h (Hp.join h k) := fun b o e => by simp [Hp.join, e]
theorem Hp.le_join_right {h k : Hp} (d : Hp.disj h k) : Hp.le k (Hp.join h k) := fun b o e => by
  rcases d b with d | d
  · simp [Hp.join, d, e]
  · rw [d] at e; cases e
theorem Hp.join_minus {h k : Hp} (l : Hp.le h k) : k = Hp.join h (Hp.minus k h) := by
  funext b
  unfold Hp.join Hp.minus
  cases e : h b with
  | none => simp
  | some o => simp [l b o e]
theorem Hp.disj_minus (h k : Hp) : Hp.disj h (Hp.minus k h) := fun b => by
  unfold Hp.minus
  cases e : h b with
  | none => exact .inl rfl
  | some o => exact .inr (by simp)
theorem Hp.disj_comm {h k : Hp} (d : Hp.disj h k) : Hp.disj k h := fun b => (d b).symm
theorem Hp.join_comm {h k : Hp} (d : Hp.disj h k) : Hp.join h k = Hp.join k h := by
  funext b
  unfold Hp.join
  rcases d b with e | e <;> simp [e]
theorem Hp.join_assoc (h k l : Hp) : Hp.join (Hp.join h k) l = Hp.join h (Hp.join k l) := by
  funext b
  unfold Hp.join
  cases h b <;> simp
theorem Hp.disj_join {h k l : Hp} (a : Hp.disj h l) (b : Hp.disj k l) : Hp.disj (Hp.join h k) l := fun x => by
  rcases a x with e | e
  · rcases b x with f | f
    · left; simp [Hp.join, e, f]
    · exact .inr f
  · exact .inr e
theorem Hp.disj_of_join_left {h k l : Hp} (a : Hp.disj (Hp.join h k) l) : Hp.disj h l := fun x => by
  rcases a x with e | e
  · left; unfold Hp.join at e; cases hh : h x <;> simp_all
  · exact .inr e
theorem Hp.disj_of_join_right {h k l : Hp} (a : Hp.disj (Hp.join h k) l) : Hp.disj k l := fun x => by
  rcases a x with e | e
  · left; unfold Hp.join at e; cases hh : h x <;> simp_all
  · exact .inr e
theorem Hp.disj_mono {h k h' k' : Hp} (d : Hp.disj h' k') (a : Hp.le h h') (b : Hp.le k k') : Hp.disj h k := fun x => by
  rcases d x with e | e
  · left
    cases hh : h x with
    | none => rfl
    | some o => rw [a x o hh] at e; cases e
  · right
    cases hh : k x with
    | none => rfl
    | some o => rw [b x o hh] at e; cases e

/-- The assertions hold of separate parts; the rest of the heap is nobody's. -/
def stars : List Assn → Assn
  | [], _ => True
  | A :: L, h => ∃ h1 h2, Hp.disj h1 h2 ∧ h = Hp.join h1 h2 ∧ A h1 ∧ stars L h2

def hpOf (w : World) : Hp
  | 0 => some (.ghost w.os w.output)
  | b + 1 => (w.heap[b]?).map .obj
theorem hpOf_obj {w : World} {b : Nat} {o : Obj} : hpOf w (b + 1) = some (.obj o) ↔ w.heap[b]? = some o := by
  simp only [hpOf, Option.map_eq_some_iff, GObj.obj.injEq, exists_eq_right]
theorem hpOf_none {w : World} {b : Nat} : hpOf w (b + 1) = none ↔ w.heap[b]? = none := by simp [hpOf]
theorem hpOf_ghost (w : World) : hpOf w 0 = some (.ghost w.os w.output) := rfl
def Sat (L : List Assn) (w : World) : Prop := stars L (hpOf w)
def Up (R : Assn) : Prop := ∀ h k, Hp.le h k → R h → R k

theorem stars_mono : ∀ {L : List Assn} {h k : Hp}, Hp.le h k → stars L h → stars L k
  | [], _, _, _, _ => trivial
  | A :: L, h, k, l, ⟨h1, h2, d, e, a, s⟩ => by
    have l1 : Hp.le h1 k := Hp.le_trans (by rw [e]; exact Hp.le_join_left _ _) l
    have l2 : Hp.le h2 k := Hp.le_trans (by rw [e]; exact Hp.le_join_right d) l
    refine ⟨h1, Hp.minus k h1, Hp.disj_minus _ _, Hp.join_minus l1, a, stars_mono ?_ s⟩
    intro b o hb
    unfold Hp.minus
    rcases d b with e1 | e1
    · simp [e1, l2 b o hb]
    · rw [e1] at hb; cases hb
theorem up_stars (L : List Assn) : Up (stars L) := fun _ _ l s => stars_mono l s

theorem stars_swap {A B : Assn} {L : List Assn} {h : Hp} (s : stars (A :: B :: L) h) : stars (B :: A :: L) h := by
  obtain ⟨h1, h2, d, e, a, h3, h4, d', e', b, s⟩ := s
  subst e'
  have d13 : Hp.disj h1 h3 := Hp.disj_mono d (Hp.le_refl _) (Hp.le_join_left _ _)
  have d14 : Hp.disj h1 h4 := Hp.disj_mono d (Hp.le_refl _) (Hp.le_join_right d')
  refine ⟨h3, Hp.join h1 h4, ?_, ?_, b, h1, h4, d14, rfl, a, s⟩
  · exact Hp.disj_comm (Hp.disj_join d13 (Hp.disj_comm d'))
  · rw [e, ← Hp.join_assoc, ← Hp.join_assoc, Hp.join_comm d13]
theorem stars_cons_mono {A : Assn} {L M : List Assn} (f : ∀ h, stars L h → stars M h) {h : Hp} (s : stars (A :: L) h) : stars (A :: M) h :=
  let ⟨h1, h2, d, e, a, s⟩ := s
  ⟨h1, h2, d, e, a, f _ s⟩
theorem stars_head_mono {A B : Assn} {L : List Assn} (f : ∀ h, A h → B h) {h : Hp} (s : stars (A :: L) h) : stars (B :: L) h :=
  let ⟨h1, h2, d, e, a, s⟩ := s
  ⟨h1, h2, d, e, f _ a, s⟩
theorem stars_drop {A : Assn} {L : List Assn} {h : Hp} (s : stars (A :: L) h) : stars L h :=
  let ⟨_, _, d, e, _, s⟩ := s
  stars_mono (by rw [e]; exact Hp.le_join_right d) s
theorem stars_head {A : Assn} {L : List Assn} {h : Hp} (s : stars (A :: L) h) (u : Up A) : A h :=
  let ⟨_, _, _, e, a, _⟩ := s
  u _ _ (by rw [e]; exact Hp.le_join_left _ _) a
theorem stars_perm {L M : List Assn} (p : L.Perm M) : ∀ {h : Hp}, stars L h → stars M h := by
  induction p with
  | nil => exact fun s => s
  | cons x _ ih => exact fun s => stars_cons_mono (fun _ => ih) s
  | swap x y l => exact fun s => stars_swap s
  | trans _ _ a b => exact fun s => b (a s)
theorem stars_mem {A : Assn} {L : List Assn} (m : A ∈ L) (u : Up A) {h : Hp} (s : stars L h) : A h := by
  induction L generalizing h with
  | nil => cases m
  | cons B L ih =>
    rcases List.mem_cons.1 m with rfl | m
    · exact stars_head s u
    · exact ih m (stars_drop s)
theorem stars_append {M L : List Assn} {h : Hp} : stars (M ++ L) h ↔ stars (stars M :: L) h := by
  induction M generalizing h with
  | nil =>
    constructor
    · exact fun s => ⟨Hp.empty, h, fun _ => .inl rfl, by funext b; simp [Hp.join, Hp.empty], trivial, s⟩
    · exact fun s => stars_drop s
  | cons A M ih =>
    constructor
    · rintro ⟨h1, h2, d, e, a, s⟩
      obtain ⟨h3, h4, d', e', m, l⟩ := ih.1 s
      subst e'
      have d13 : Hp.disj h1 h3 := Hp.disj_mono d (Hp.le_refl _) (Hp.le_join_left _ _)
      have d14 : Hp.disj h1 h4 := Hp.disj_mono d (Hp.le_refl _) (Hp.le_join_right d')
      exact ⟨Hp.join h1 h3, h4, Hp.disj_join d14 d', by rw [e, Hp.join_assoc], ⟨h1, h3, d13, rfl, a, m⟩, l⟩
    · rintro ⟨h1, h2, d, e, ⟨h3, h4, d', e', a, m⟩, l⟩
      subst e'
      have d32 : Hp.disj h3 h2 := Hp.disj_of_join_left d
      have d42 : Hp.disj h4 h2 := Hp.disj_of_join_right d
      exact ⟨h3, Hp.join h4 h2, Hp.disj_comm (Hp.disj_join (Hp.disj_comm d') (Hp.disj_comm d32)), by rw [e, Hp.join_assoc], a, ih.2 ⟨h4, h2, d42, rfl, m, l⟩⟩
theorem stars_ex {α : Type} {A : α → Assn} {L : List Assn} {h : Hp} (s : stars ((fun k => ∃ x, A x k) :: L) h) : ∃ x, stars (A x :: L) h :=
  let ⟨h1, h2, d, e, ⟨x, a⟩, s⟩ := s
  ⟨x, h1, h2, d, e, a, s⟩

/-- The one block 'b': these cells of this type; none of them is frozen. -/
def blk (b : Nat) (c : List Value) (T : TypeId) : Assn := fun h => ∃ fr : Nat × Nat, h (b + 1) = some (.obj (.cells c.toArray T fr)) ∧ (fr.2 ≤ fr.1 ∨ c.length ≤ fr.1)
theorem up_blk (b : Nat) (c : List Value) (T : TypeId) : Up (blk b c T) := fun _ _ l ⟨fr, e, f⟩ => ⟨fr, l _ _ e, f⟩
/-- There is a cell at a place, and it holds a value. -/
def cellAt (b off : Nat) (v : Value) : Assn := fun h => ∃ (c : Array Value) (T : TypeId) (fr : Nat × Nat), h (b + 1) = some (.obj (.cells c T fr)) ∧ c[off]? = some v
theorem up_cellAt (b off : Nat) (v : Value) : Up (cellAt b off v) := fun _ _ l ⟨c, T, fr, e, f⟩ => ⟨c, T, fr, l _ _ e, f⟩

/-- What holds of whatever heap meets the assertions. -/
def Ent (L : List Assn) (R : Assn) : Prop := ∀ h, stars L h → R h
theorem Ent.mem {A : Assn} {L : List Assn} {R : Assn} (m : A ∈ L) (u : Up A) (f : ∀ h, A h → R h) : Ent L R := fun _ s => f _ (stars_mem m u s)
theorem Ent.tail {A : Assn} {L : List Assn} {R : Assn} (e : Ent L R) : Ent (A :: L) R := fun _ s => e _ (stars_drop s)
theorem Ent.blk {b : Nat} {c : List Value} {T : TypeId} {L : List Assn} {off : Nat} {v : Value} (m : blk b c T ∈ L) (e : c[off]? = some v) : Ent L (cellAt b off v) :=
  Ent.mem m (up_blk b c T) fun h ⟨fr, hb, _⟩ => ⟨_, T, fr, hb, by simpa using e⟩
theorem Ent.and {L : List Assn} {R S : Assn} (a : Ent L R) (b : Ent L S) : Ent L (fun h => R h ∧ S h) := fun h s => ⟨a h s, b h s⟩

theorem cell_of_cellAt {w : World} {b off : Nat} {v : Value} (h : cellAt b off v (hpOf w)) : w.cell? ⟨b, off, none⟩ = some v := by
  obtain ⟨c, T, fr, e, f⟩ := h
  have e := hpOf_obj.1 e
  unfold World.cell?
  simp only [e]
  simpa using f

/-- From one list of assertions to another. -/
def Imp (L M : List Assn) : Prop := ∀ h, stars L h → stars M h
theorem Imp.refl (L : List Assn) : Imp L L := fun _ s => s
theorem Imp.trans {L M N : List Assn} (a : Imp L M) (b : Imp M N) : Imp L N := fun h s => b h (a h s)
theorem Imp.perm {L M : List Assn} (p : L.Perm M) : Imp L M := fun _ s => stars_perm p s
theorem Imp.sat {L M : List Assn} (i : Imp L M) {w : World} (s : Sat L w) : Sat M w := i _ s
theorem Imp.cons {A : Assn} {L M : List Assn} (i : Imp L M) : Imp (A :: L) (A :: M) := fun _ s => stars_cons_mono i s
theorem Imp.drop {A : Assn} {L : List Assn} : Imp (A :: L) L := fun _ s => stars_drop s
theorem stars_append_left {M L : List Assn} {h : Hp} (s : stars (M ++ L) h) : stars M h :=
  let ⟨_, _, _, e, a, _⟩ := stars_append.1 s
  stars_mono (by rw [e]; exact Hp.le_join_left _ _) a
theorem stars_one {F : List Assn} {h : Hp} : stars F h ↔ stars [stars F] h := by
  constructor
  · exact fun s => ⟨h, Hp.empty, fun _ => .inr rfl, by funext b; simp [Hp.join, Hp.empty], s, trivial⟩
  · rintro ⟨h1, h2, _, e, s, _⟩
    exact stars_mono (by rw [e]; exact Hp.le_join_left _ _) s
theorem stars_app_one {M F : List Assn} {h : Hp} : stars (M ++ F) h ↔ stars (M ++ [stars F]) h := by
  rw [stars_append, stars_append]
  exact ⟨stars_cons_mono (fun _ s => stars_one.1 s), stars_cons_mono (fun _ s => stars_one.2 s)⟩
theorem Imp.app {L M : List Assn} (i : Imp L M) (F : List Assn) : Imp (L ++ F) (M ++ F) := fun _ s => stars_append.2 (stars_head_mono i (stars_append.1 s))
/-- One assertion taken out of a list. -/
inductive Pick : List Assn → Assn → List Assn → Prop
  | here (A : Assn) (L : List Assn) : Pick (A :: L) A L
  | there {A B : Assn} {L M : List Assn} : Pick L A M → Pick (B :: L) A (B :: M)
theorem Pick.perm {L M : List Assn} {A : Assn} (p : Pick L A M) : L.Perm (A :: M) := by
  induction p with
  | here => exact .refl _
  | there _ ih => exact (ih.cons _).trans (.swap _ _ _)
theorem Pick.imp {L M : List Assn} {A : Assn} (p : Pick L A M) : Imp L (A :: M) := .perm p.perm
theorem Pick.back {L M : List Assn} {A : Assn} (p : Pick L A M) : Imp (A :: M) L := .perm p.perm.symm
/-- Those of the second list, in its order, are taken out of the first; the third is what is left. -/
inductive Picks : List Assn → List Assn → List Assn → Prop
  | nil (L : List Assn) : Picks L [] L
  | cons {L M N A Rs} : Pick L A M → Picks M Rs N → Picks L (A :: Rs) N
theorem Picks.imp {L Rs N : List Assn} (p : Picks L Rs N) : Imp L (Rs ++ N) := by
  induction p with
  | nil => exact Imp.refl _
  | cons p _ ih => exact p.imp.trans ih.cons

theorem Imp.sub {L Rs N : List Assn} (p : Picks L Rs N) : Imp L Rs := fun _ s => stars_append_left (p.imp _ s)
/-- The heap may have grown, and nothing that was there has changed. -/
def Ext (w w' : World) : Prop := Hp.le (hpOf w) (hpOf w')
theorem Ext.refl (w : World) : Ext w w := Hp.le_refl _
theorem Ext.trans {a b c : World} (x : Ext a b) (y : Ext b c) : Ext a c := Hp.le_trans x y
theorem Sat.ext {L : List Assn} {w w' : World} (s : Sat L w) (x : Ext w w') : Sat L w' := stars_mono x s
theorem hpOf_heap {w w' : World} (h : w'.heap = w.heap) (h1 : w'.os = w.os) (h2 : w'.output = w.output) : hpOf w' = hpOf w := by
  funext k
  cases k with
  | zero => simp only [hpOf, h1, h2]
  | succ k => simp only [hpOf, h]
theorem Ext.of_heap {w w' : World} (h : w'.heap = w.heap) (h1 : w'.os = w.os) (h2 : w'.output = w.output) : Ext w w' := fun b o e => by rw [hpOf_heap h h1 h2]; exact e
theorem Ext.os {w w' : World} (h : Ext w w') : w'.os = w.os ∧ w'.output = w.output := by
  have := h 0 _ (hpOf_ghost w)
  rw [hpOf_ghost] at this
  simp only [Option.some.injEq, GObj.ghost.injEq] at this
  exact this
theorem Ext.block {w w' : World} (h : Ext w w') {b : Nat} (hb : b < w.heap.size) : w'.heap[b]? = w.heap[b]? := by
  rw [Array.getElem?_eq_getElem hb]
  exact hpOf_obj.1 (h (b + 1) _ (hpOf_obj.2 (Array.getElem?_eq_getElem hb)))
theorem Ext.size {w w' : World} (h : Ext w w') : w.heap.size ≤ w'.heap.size := by
  by_cases e : w.heap.size = 0
  · omega
  · have hlt : w.heap.size - 1 < w.heap.size := by omega
    have h2 := h.block hlt
    rw [Array.getElem?_eq_getElem hlt] at h2
    have := (Array.getElem?_eq_some_iff.1 h2).1
    omega
/-- All that was there when the call began, as it was. -/
def old (w : World) : Assn := fun h => Hp.le (hpOf w) h
theorem up_old (w : World) : Up (old w) := fun _ _ l a => Hp.le_trans a l
theorem Sat.old (w : World) : Sat [old w] w :=
  ⟨hpOf w, Hp.empty, fun _ => .inr rfl, by funext b; simp [Hp.join, Hp.empty], Hp.le_refl _, trivial⟩
theorem ext_of_old {w w' : World} {L : List Assn} (m : GL.old w ∈ L) (s : Sat L w') : Ext w w' := stars_mem m (up_old w) s
theorem Ent.old {w : World} {L : List Assn} {R : Assn} (m : GL.old w ∈ L) (u : Up R) (r : R (hpOf w)) : Ent L R :=
  Ent.mem m (up_old w) fun _ a => u _ _ a r

/-- A new block. -/
theorem Sat.new {L : List Assn} {w : World} (s : Sat L w) (c : List Value) (T : TypeId) : Sat (blk w.heap.size c T :: L) { w with heap := w.heap.push (.cells c.toArray T) } := by
  refine ⟨fun b => if b = w.heap.size + 1 then some (.obj (.cells c.toArray T)) else none, hpOf w, ?_, ?_, ⟨(0, 0), by simp, .inl (by simp)⟩, s⟩
  · intro b
    by_cases e : b = w.heap.size + 1
    · right; subst e; simp [hpOf]
    · left; simp [e]
  · funext b
    unfold Hp.join
    cases b with
    | zero => simp [hpOf]
    | succ b =>
      unfold hpOf
      by_cases e : b = w.heap.size
      · subst e; simp
      · have : ¬ (b + 1 = w.heap.size + 1) := by omega
        simp only [this, if_false, Option.none_or]
        rw [Array.getElem?_push]
        simp [e]

/-- Block 'b' of the first list holds other cells in the second. -/
inductive Upd : List Assn → Nat → List Value → TypeId → List Value → List Assn → Prop
  | here (b : Nat) (c c' : List Value) (T : TypeId) (L : List Assn) : Upd (blk b c T :: L) b c T c' (blk b c' T :: L)
  | there {A : Assn} {L M : List Assn} {b : Nat} {c c' : List Value} {T : TypeId} : Upd L b c T c' M → Upd (A :: L) b c T c' (A :: M)
theorem Upd.has {L M : List Assn} {b : Nat} {c c' : List Value} {T : TypeId} (u : Upd L b c T c' M) : blk b c T ∈ L := by
  induction u with
  | here => exact List.mem_cons_self
  | there _ ih => exact List.mem_cons_of_mem _ ih
theorem Upd.stars {L M : List Assn} {b : Nat} {c c' : List Value} {T : TypeId} (u : Upd L b c T c' M) (hl : c'.length = c.length) : ∀ {h k : Hp}, stars L h →
    (∀ x, x ≠ b + 1 → k x = h x) → (∀ fr, h (b + 1) = some (.obj (.cells c.toArray T fr)) → k (b + 1) = some (.obj (.cells c'.toArray T fr))) → stars M k := by
  induction u with
  | here b c c' T L =>
    rintro h k ⟨h1, h2, d, e, ⟨fr, hb, hf⟩, s⟩ hne heq
    have hb' : h (b + 1) = some (.obj (.cells c.toArray T fr)) := by rw [e]; simp [Hp.join, hb]
    have h2b : h2 (b + 1) = none := by
      rcases d (b + 1) with x | x
      · rw [x] at hb; cases hb
      · exact x
    refine ⟨fun x => if x = b + 1 then k (b + 1) else h1 x, h2, ?_, ?_, ⟨fr, by simp [heq fr hb'], by rw [hl]; exact hf⟩, s⟩
    · intro x
      by_cases ex : x = b + 1
      · subst ex; exact .inr h2b
      · simp only [ex, if_false]; exact d x
    · funext x
      by_cases ex : x = b + 1
      · subst ex; simp [Hp.join, heq fr hb']
      · rw [hne x ex, e]; simp [Hp.join, ex]
  | @there A L M b c c' T u ih =>
    rintro h k ⟨h1, h2, d, e, a, s⟩ hne heq
    obtain ⟨fr, hb, _⟩ := stars_mem (Upd.has u) (up_blk b c T) s
    have h1b : h1 (b + 1) = none := by
      rcases d (b + 1) with x | x
      · exact x
      · rw [x] at hb; cases hb
    have hb' : h (b + 1) = some (.obj (.cells c.toArray T fr)) := by rw [e]; simp [Hp.join, hb, h1b]
    refine ⟨h1, fun x => if x = b + 1 then k (b + 1) else h2 x, ?_, ?_, a, ih hl s ?_ ?_⟩
    · intro x
      by_cases ex : x = b + 1
      · subst ex; exact .inl h1b
      · simp only [ex, if_false]; exact d x
    · funext x
      by_cases ex : x = b + 1
      · subst ex; simp [Hp.join, h1b]
      · rw [hne x ex, e]; simp [Hp.join, ex]
    · intro x ex; simp [ex]
    · intro fr' hb2
      rw [hb] at hb2
      cases hb2
      simp [heq fr hb']

theorem Sat.set {L M : List Assn} {b : Nat} {c : List Value} {T : TypeId} {off : Nat} {v : Value} {w : World} (u : Upd L b c T (c.set off v) M) (s : Sat L w) :
    Sat M (w.setCell ⟨b, off, none⟩ v) := by
  refine u.stars (by simp) s ?_ ?_
  · intro x hx
    cases x with
    | zero => rfl
    | succ x =>
      have hx : x ≠ b := by omega
      unfold hpOf World.setCell
      simp only []
      rw [Array.getElem?_modify]
      simp [Ne.symm hx]
  · intro fr hb
    have hb := hpOf_obj.1 hb
    refine hpOf_obj.2 ?_
    unfold World.setCell
    simp only []
    rw [Array.getElem?_modify]
    simp [hb]
theorem Sat.notFrozen {L : List Assn} {b : Nat} {c : List Value} {T : TypeId} {w : World} (s : Sat L w) (m : GL.blk b c T ∈ L) {off : Nat} (h : off < c.length) : w.frozen? ⟨b, off, none⟩ = false := by
  obtain ⟨fr, hb, hf⟩ := stars_mem m (up_blk b c T) s
  have hb := hpOf_obj.1 hb
  unfold World.frozen?
  simp only [hb]
  obtain ⟨lo, hi⟩ := fr
  simp only [] at hf ⊢
  rcases hf with hf | hf
  · simp; omega
  · simp; omega
end Go.GL
/- The symbolic state of a walk: what some temporaries hold, and one operation's value out of it. -/
namespace Go.GL
open Go

/-- What is known of a type. -/
structure TI where
  desc : TypeDesc
  size : Nat
  bytes : Nat
  zero : List Value
  agg : Bool
  cmp : Bool
inductive Tab where
  | leaf
  | node (k : Nat) (v : TI) (l r : Tab)
def Tab.find : Tab → Nat → Option TI
  | .leaf, _ => none
  | .node k v l r, t => match Nat.beq t k with
    | true => some v
    | false => match Nat.ble t k with
      | true => l.find t
      | false => r.find t
def zeroOf (t : TI) : Value := match t.agg with
  | true => .agg t.zero.toArray
  | false => match t.zero with
    | v :: _ => v
    | [] => undef
def isAggD : TypeDesc → Bool
  | .struct _ => true
  | .array _ _ => true
  | _ => false
structure TIOk (P : Program) (t : Nat) (i : TI) : Prop where
  desc : P.underlying t = some i.desc
  info : (P.info? t).map (fun x => (x.size, x.bytes, x.zero, x.comparable)) = some (i.size, i.bytes, some (zeroOf i), i.cmp)
  agg : isAggD i.desc = i.agg
  zero : i.zero.length = i.size
  zcells : (zeroOf i).cells = i.zero.toArray
def Tab.ok (P : Program) : Tab → Prop
  | .leaf => True
  | .node k v l r => TIOk P k v ∧ l.ok P ∧ r.ok P
theorem Tab.find_ok {P : Program} : ∀ {T : Tab}, T.ok P → ∀ {t i}, T.find t = some i → TIOk P t i
  | .leaf, _, _, _, h => by cases h
  | .node k v l r, ⟨a, b, c⟩, t, i, h => by
    unfold Tab.find at h
    split at h
    · rename_i e; cases h; rw [Nat.eq_of_beq_eq_true e]; exact a
    · split at h
      · exact Tab.find_ok b h
      · exact Tab.find_ok c h

structure Ctx where
  P : Program
  T : Tab
  ok : T.ok P
  mixed : P.follows .mixedOrders = true

theorem run_under {P : Program} {t : Nat} {i : TI} (h : TIOk P t i) (w : World) : (underlying t).run P w = .ok i.desc w := run_underlying h.desc w
theorem run_info {P : Program} {t : Nat} {i : TI} (h : TIOk P t i) (w : World) : ∃ x : TypeInfo, P.info? t = some x ∧ (typeInfo t).run P w = .ok x w ∧ x.size = i.size ∧ x.bytes = i.bytes ∧ x.zero = some (zeroOf i) ∧ x.comparable = i.cmp := by
  have e := h.info
  cases hx : P.info? t with
  | none => rw [hx] at e; cases e
  | some x =>
    rw [hx] at e
    simp only [Option.map_some, Option.some.injEq, Prod.mk.injEq] at e
    exact ⟨x, rfl, by simp [typeInfo, hx], e.1, e.2.1, e.2.2.1, e.2.2.2⟩
theorem run_size {P : Program} {t : Nat} {i : TI} (h : TIOk P t i) (w : World) : (sizeOf t).run P w = .ok i.size w := by
  obtain ⟨x, _, r, e, _⟩ := run_info h w
  simp [Go.sizeOf, r, e]
theorem run_zero {P : Program} {t : Nat} {i : TI} (h : TIOk P t i) (w : World) : (zeroValue t).run P w = .ok (zeroOf i) w := by
  obtain ⟨x, _, r, _, _, e, _⟩ := run_info h w
  simp [zeroValue, r, e]
theorem run_isAgg {P : Program} {t : Nat} {i : TI} (h : TIOk P t i) (w : World) : (isAgg t).run P w = .ok i.agg w := by
  simp only [isAgg, Sem.run_bind, run_under h, Result.andThen_ok]
  rw [← h.agg]
  cases i.desc <;> rfl

/-- What a temporary is known to hold: a value; or a value if a condition holds. -/
inductive Slot where
  | val (v : Value)
  | grd (p : Bool) (v : Value)
abbrev Env := List (Nat × Slot)
def Env.get : Env → Nat → Option Slot
  | [], _ => none
  | (j, s) :: e, i => match Nat.beq i j with
    | true => some s
    | false => Env.get e i
def Slot.fits : Slot → Option Value → Prop
  | .val v, x => x = some v
  | .grd p v, x => x = some (bif p then v else undef)
structure Agree (N : Nat) (env : Env) (a : Act) : Prop where
  defers : a.defers = []
  size : a.tmps.size = N
  at_ : ∀ i s, Env.get env i = some s → s.fits a.tmps[i]?

theorem Agree.put {N : Nat} {env : Env} {a : Act} (h : Agree N env a) {d : Nat} (hd : Nat.blt d N = true) (v : Value) : Agree N ((d, .val v) :: env) (a.put (some d) v) := by
  have hd' : d < N := by simpa [Nat.blt_eq] using hd
  refine ⟨h.defers, by simp [Act.put, h.size], fun i s hs => ?_⟩
  unfold Env.get at hs
  split at hs
  · rename_i e
    have e := Nat.eq_of_beq_eq_true e
    cases hs; subst e
    simp [Slot.fits, Act.put, h.size, hd']
  · rename_i e
    have e := Nat.ne_of_beq_eq_false e
    have := h.at_ i s hs
    simpa [Act.put, Array.getElem?_setIfInBounds, Ne.symm e] using this
theorem Agree.none {N : Nat} {env : Env} {a : Act} (h : Agree N env a) (v : Value) : Agree N env (a.put none v) := h
theorem Agree.grd {N : Nat} {env : Env} {a : Act} (h : Agree N env a) {d : Nat} (hd : Nat.blt d N = true) {q : Bool} {u v : Value} (hq : u = bif q then v else undef) :
    Agree N ((d, .grd q v) :: env) (a.put (some d) u) := by
  have hd' : d < N := by simpa [Nat.blt_eq] using hd
  refine ⟨h.defers, by simp [Act.put, h.size], fun i s hs => ?_⟩
  unfold Env.get at hs
  split at hs
  · rename_i e
    have e := Nat.eq_of_beq_eq_true e
    cases hs; subst e
    simp [Slot.fits, Act.put, h.size, hd', hq]
  · rename_i e
    have e := Nat.ne_of_beq_eq_false e
    have := h.at_ i s hs
    simpa [Act.put, Array.getElem?_setIfInBounds, Ne.symm e] using this
/-- What the second list says, the first says. -/
def SubEnv : Env → Env → Prop
  | [], _ => True
  | (i, s) :: r, e => Env.get e i = some s ∧ SubEnv r e
theorem Agree.sub {N : Nat} {e e' : Env} {a : Act} (h : Agree N e a) (s : SubEnv e' e) : Agree N e' a := by
  refine ⟨h.defers, h.size, fun i x hx => ?_⟩
  induction e' with
  | nil => cases hx
  | cons y r ih =>
    obtain ⟨j, t⟩ := y
    obtain ⟨s1, s2⟩ := s
    unfold Env.get at hx
    split at hx
    · rename_i e
      have e := Nat.eq_of_beq_eq_true e
      cases hx; subst e
      exact h.at_ _ _ s1
    · exact ih s2 hx

def Holds : Option Prop → Prop
  | none => True
  | some p => p
def andC : Option Prop → Option Prop → Option Prop
  | none, c => c
  | some p, none => some p
  | some p, some q => some (p ∧ q)
theorem holds_andC {a b : Option Prop} (h : Holds (andC a b)) : Holds a ∧ Holds b := by
  cases a <;> cases b <;> simp_all [andC, Holds]

/-- a value under a condition, the condition laid open -/
def fin (c : Option Prop) (v : Value) : Option (Option Prop × Value) := match c with
  | none => some (none, v)
  | some p => some (some p, v)
theorem fin_eq {c c' : Option Prop} {v v' : Value} (h : fin c v = some (c', v')) : c' = c ∧ v' = v := by
  cases c <;> simp only [fin, Option.some.injEq, Prod.mk.injEq] at h <;> exact ⟨h.1.symm, h.2.symm⟩
/-- Under which condition an operation is carried out: always, or if a test came out true. -/
abbrev Gd := Option Bool
def Gd.on : Gd → Prop
  | none => True
  | some g => g = true
def cnd : Gd → Prop → Option Prop
  | none, p => some p
  | some g, p => some (g = true → p)
theorem cnd_ok {q : Gd} {p : Prop} (h : Holds (cnd q p)) (hq : q.on) : p := by
  cases q with
  | none => exact h
  | some g => exact h hq
/-- An operand, where condition 'q' holds. -/
def rd (q : Gd) (env : Env) : Operand → Option (Option Prop × Value)
  | .tmp t => match Env.get env t with
    | some (.val v) => some (none, v)
    | some (.grd p v) => fin (cnd q (p = true)) v
    | none => none
  | .const v => some (none, v)
  | .global g => some (none, .pointer (some ⟨g, 0, none⟩))
  | .func f => some (none, .func (.func f) #[] #[])
theorem rd_ok {N : Nat} {env : Env} {a : Act} (h : Agree N env a) {q : Gd} {x : Operand} {c : Option Prop} {v : Value} (e : rd q env x = some (c, v)) (hc : Holds c) (hq : q.on) : a.eval x = v := by
  cases x with
  | tmp t =>
    simp only [rd] at e
    cases hu : Env.get env t with
    | none => rw [hu] at e; cases e
    | some s =>
      rw [hu] at e
      cases s with
      | val u =>
        cases e
        have := h.at_ _ _ hu
        simp only [Slot.fits] at this
        simp [Act.eval, Array.getD_eq_getD_getElem?, this]
      | grd p u =>
        obtain ⟨rfl, rfl⟩ := fin_eq e
        have := h.at_ _ _ hu
        simp only [Slot.fits, cnd_ok hc hq, cond_true] at this
        simp [Act.eval, Array.getD_eq_getD_getElem?, this]
  | const v => simp only [rd, Option.some.injEq, Prod.mk.injEq] at e; exact e.2
  | global g => simp only [rd, Option.some.injEq, Prod.mk.injEq] at e; exact e.2
  | func f => simp only [rd, Option.some.injEq, Prod.mk.injEq] at e; exact e.2
end Go.GL
/- One operation's value. -/
namespace Go.GL
open Go

/-- a number that fits its kind -/
def Fit (k : IntKind) (n : Int) : Prop := match k with
  | .i8 => -128 ≤ n ∧ n ≤ 127
  | .i16 => -32768 ≤ n ∧ n ≤ 32767
  | .i32 => -2147483648 ≤ n ∧ n ≤ 2147483647
  | .i64 => -9223372036854775808 ≤ n ∧ n ≤ 9223372036854775807
  | .u8 => 0 ≤ n ∧ n ≤ 255
  | .u16 => 0 ≤ n ∧ n ≤ 65535
  | .u32 => 0 ≤ n ∧ n ≤ 4294967295
  | .u64 => 0 ≤ n ∧ n ≤ 18446744073709551615
theorem wrap_fit {k : IntKind} {n : Int} (h : Fit k n) : k.wrap n = n := by
  unfold Fit at h
  cases k <;> simp only [] at h <;> simp only [IntKind.wrap, IntKind.bits, IntKind.signed] <;> (first | (simp; omega) | (simp; split <;> omega))

def fitC : IntKind → Int → Option Prop
  | .i8, n => some (-128 ≤ n ∧ n ≤ 127)
  | .i16, n => some (-32768 ≤ n ∧ n ≤ 32767)
  | .i32, n => some (-2147483648 ≤ n ∧ n ≤ 2147483647)
  | .i64, n => some (-9223372036854775808 ≤ n ∧ n ≤ 9223372036854775807)
  | .u8, n => some (0 ≤ n ∧ n ≤ 255)
  | .u16, n => some (0 ≤ n ∧ n ≤ 65535)
  | .u32, n => some (0 ≤ n ∧ n ≤ 4294967295)
  | .u64, n => some (0 ≤ n ∧ n ≤ 18446744073709551615)
theorem fitC_ok {k : IntKind} {n : Int} (h : Holds (fitC k n)) : Fit k n := by cases k <;> exact h
def bitsV (op : BinOp) (k : IntKind) (x y : Int) : Int :=
  let a := BitVec.ofInt k.bits x
  let b := BitVec.ofInt k.bits y
  match op with
  | .and => k.wrap (a &&& b).toNat
  | .or => k.wrap (a ||| b).toNat
  | .xor => k.wrap (a ^^^ b).toNat
  | _ => k.wrap (a &&& ~~~b).toNat
def shlV (k : IntKind) (x y : Int) : Int := k.wrap (x * 2 ^ (min y.toNat k.bits))
def shrV (k : IntKind) (x y : Int) : Int := x.fdiv (2 ^ (min y.toNat k.bits))

/-- Two whole numbers. 'nw': nothing is to be wrapped, and that is to be shown. -/
def evInt (nw : Bool) (op : BinOp) (k : IntKind) (a b : Int) : Option (Option Prop × Value) :=
  match op with
  | .add => match nw with
    | true => fin (fitC k (a + b)) (.int k (a + b))
    | false => some (none, .int k (k.wrap (a + b)))
  | .sub => match nw with
    | true => fin (fitC k (a - b)) (.int k (a - b))
    | false => some (none, .int k (k.wrap (a - b)))
  | .mul => match nw with
    | true => fin (fitC k (a * b)) (.int k (a * b))
    | false => some (none, .int k (k.wrap (a * b)))
  | .quo => match nw with
    | true => fin (andC (some (0 ≤ a ∧ 0 < b)) (fitC k (a / b))) (.int k (a / b))
    | false => some (some (b ≠ 0), .int k (k.wrap (a.tdiv b)))
  | .rem => match nw with
    | true => some (some (0 ≤ a ∧ 0 < b), .int k (a % b))
    | false => some (some (b ≠ 0), .int k (a.tmod b))
  | .and => some (none, .int k (bitsV .and k a b))
  | .or => some (none, .int k (bitsV .or k a b))
  | .xor => some (none, .int k (bitsV .xor k a b))
  | .andNot => some (none, .int k (bitsV .andNot k a b))
  | .eql => some (none, .bool (decide (a = b)))
  | .neq => some (none, .bool (!decide (a = b)))
  | .lss => some (none, .bool (decide (a < b)))
  | .leq => some (none, .bool (decide (a ≤ b)))
  | .gtr => some (none, .bool (decide (b < a)))
  | .geq => some (none, .bool (decide (b ≤ a)))
  | _ => none
theorem evInt_ok {P : Program} {nw : Bool} {op : BinOp} {k : IntKind} {a b : Int} {c : Option Prop} {v : Value} (h : evInt nw op k a b = some (c, v)) (hc : Holds c) (t : TypeId) (w : World) :
    (binOp op t (.int k a) (.int k b)).run P w = .ok v w := by
  cases op <;> simp only [evInt] at h <;>
    first
    | (cases h; done)
    | (cases nw <;> simp only [] at h <;>
        first
        | (obtain ⟨rfl, rfl⟩ := fin_eq h
           simp only [binOp, Op.intArith, ne_eq, not_true_eq_false, if_false, Sem.run_pure, wrap_fit (fitC_ok hc)]; done)
        | (obtain ⟨rfl, rfl⟩ := fin_eq h
           obtain ⟨⟨h1, h2⟩, h3⟩ := holds_andC hc
           have hb : ¬ b = 0 := by omega
           simp only [binOp, Op.intDiv, ne_eq, not_true_eq_false, if_false, hb, Sem.run_pure, Int.tdiv_eq_ediv_of_nonneg h1, wrap_fit (fitC_ok h3)]; done)
        | (simp only [Option.some.injEq, Prod.mk.injEq] at h
           obtain ⟨rfl, rfl⟩ := h
           simp only [Holds] at hc
           first
           | (simp only [binOp, Op.intArith, ne_eq, not_true_eq_false, if_false, Sem.run_pure]; done)
           | (have hb : ¬ b = 0 := hc
              simp only [binOp, Op.intDiv, ne_eq, not_true_eq_false, if_false, hb, Sem.run_pure]; done)
           | (obtain ⟨h1, h2⟩ := hc
              have hb : ¬ b = 0 := by omega
              simp only [binOp, Op.intDiv, ne_eq, not_true_eq_false, if_false, hb, Sem.run_pure, Int.tmod_eq_emod_of_nonneg h1]; done)))
    | (simp only [Option.some.injEq, Prod.mk.injEq] at h
       obtain ⟨rfl, rfl⟩ := h
       first
       | (simp only [binOp, Op.intBits, ne_eq, not_true_eq_false, if_false, Sem.run_pure, bitsV]; done)
       | (simp only [binOp, Op.intCmp, ne_eq, not_true_eq_false, if_false, Sem.run_pure, GT.gt, GE.ge, Int.beq_eq_decide_eq, bne]; done)
       | (simp [binOp, Op.intCmp]; done)
       | (simp [binOp, Op.intCmp]; rfl))

def evBin (T : Tab) (nw : Bool) (op : BinOp) (t : TypeId) (cx cy : Bool) : Value → Value → Option (Option Prop × Value)
  | .int k a, .int k' b => match op with
    | .shl => some (some (0 ≤ b), .int k (shlV k a b))
    | .shr => some (some (0 ≤ b), .int k (shrV k a b))
    | _ => match k, k' with
      | .i64, .i64 => evInt nw op .i64 a b
      | .i32, .i32 => evInt nw op .i32 a b
      | .i16, .i16 => evInt nw op .i16 a b
      | .i8, .i8 => evInt nw op .i8 a b
      | .u64, .u64 => evInt nw op .u64 a b
      | .u32, .u32 => evInt nw op .u32 a b
      | .u16, .u16 => evInt nw op .u16 a b
      | .u8, .u8 => evInt nw op .u8 a b
      | _, _ => none
  | .string a, .string b => match op with
    | .add => some (some (a.size + b.size ≤ 9223372036854775807), .string (a ++ b))
    | .eql => some (none, .bool (decide (a = b)))
    | .neq => some (none, .bool (!decide (a = b)))
    | _ => none
  | .bool a, .bool b => match op, T.find t with
    | .eql, some ⟨.bool, _, _, _, _, _⟩ => some (none, .bool (a == b))
    | .neq, some ⟨.bool, _, _, _, _, _⟩ => some (none, .bool (!(a == b)))
    | _, _ => none
  | .pointer x, .pointer none => match op, T.find t with
    | .eql, some ⟨.pointer _, _, _, _, _, _⟩ => some (none, .bool x.isNone)
    | .neq, some ⟨.pointer _, _, _, _, _, _⟩ => some (none, .bool (!x.isNone))
    | _, _ => none
  | .iface _ _, .nilIface => match op, T.find t with
    | .eql, some ⟨.interface _, _, _, _, _, _⟩ => some (none, .bool false)
    | .neq, some ⟨.interface _, _, _, _, _, _⟩ => some (none, .bool true)
    | _, _ => none
  | .iface t1 v1, .iface t2 v2 => match op, T.find t, Nat.beq t1 t2 with
    | .eql, some ⟨.interface _, _, _, _, _, _⟩, false => some (none, .bool false)
    | .neq, some ⟨.interface _, _, _, _, _, _⟩, false => some (none, .bool true)
    | .eql, some ⟨.interface _, _, _, _, _, _⟩, true => match T.find t1, v1, v2 with
      | some ⟨.int _, _, _, _, _, true⟩, .int .i64 a, .int .i64 b => some (none, .bool (decide (a = b)))
      | _, _, _ => none
    | .neq, some ⟨.interface _, _, _, _, _, _⟩, true => match T.find t1, v1, v2 with
      | some ⟨.int _, _, _, _, _, true⟩, .int .i64 a, .int .i64 b => some (none, .bool (!decide (a = b)))
      | _, _, _ => none
    | _, _, _ => none
  | .nilIface, .iface _ _ => match op, T.find t with
    | .eql, some ⟨.interface _, _, _, _, _, _⟩ => some (none, .bool false)
    | .neq, some ⟨.interface _, _, _, _, _, _⟩ => some (none, .bool true)
    | _, _ => none
  | .nilIface, .nilIface => match op, T.find t, (cx || cy) with
    | .eql, some ⟨.interface _, _, _, _, _, _⟩, true => some (none, .bool true)
    | .neq, some ⟨.interface _, _, _, _, _, _⟩, true => some (none, .bool false)
    | _, _, _ => none
  | .slice a _ _, .slice none _ _ => match op, T.find t, a with
    | .eql, some ⟨.slice _, _, _, _, _, _⟩, some _ => some (none, .bool false)
    | .neq, some ⟨.slice _, _, _, _, _, _⟩, some _ => some (none, .bool true)
    | .eql, some ⟨.slice _, _, _, _, _, _⟩, none => some (none, .bool true)
    | .neq, some ⟨.slice _, _, _, _, _, _⟩, none => some (none, .bool false)
    | _, _, _ => none
  | _, _ => none

def isConstO : Operand → Bool
  | .const _ => true
  | _ => false

theorem guard_free {P : Program} {w : World} {op : BinOp} {t : TypeId} {x y : Operand} {a b : Value}
    (h : ∀ xs ys, ¬ (a = .agg xs ∧ b = .agg ys)) (hn : a = .nilIface → b = .nilIface → (isConstO x || isConstO y) = true) :
    (eqGuard op t x y a b).run P w = .ok () w := by
  have key : ∀ z : Operand, isConstO z = (z matches .const _) := fun z => by cases z <;> rfl
  cases op <;> simp [eqGuard] <;>
  · cases a <;> cases b <;> simp
    · have := hn rfl rfl
      rw [key, key] at this
      simp at this
      intro h1 h2
      rcases this with h | h
      · cases x <;> simp_all
      · cases y <;> simp_all
    · exact absurd ⟨rfl, rfl⟩ (h _ _)

theorem str_ok {P : Program} {nw : Bool} {T : Tab} {op : BinOp} {t : TypeId} {cx cy : Bool} {a b : ByteArray} {c : Option Prop} {v : Value}
    (h : evBin T nw op t cx cy (.string a) (.string b) = some (c, v)) (hc : Holds c) (w : World) : (binOp op t (.string a) (.string b)).run P w = .ok v w := by
  have e : (a.toList == b.toList) = decide (a = b) := by
    rw [ByteArray.toList_eq, ByteArray.toList_eq, Bool.eq_iff_iff, beq_iff_eq, decide_eq_true_eq]
    constructor
    · intro h
      cases a; cases b; congr; exact Array.toList_inj.1 h
    · intro h; rw [h]
  cases op <;> simp only [evBin] at h <;> first
    | (cases h; done)
    | (cases h
       simp only [Holds] at hc
       simp only [binOp, Op.stringOp, e, Sem.run_pure]; done)
    | (cases h
       simp only [Holds] at hc
       have : ¬ (((a.size + b.size : Nat) : Int) > IntKind.i64.max) := by
         simp [IntKind.max, IntKind.signed, IntKind.bits]; omega
       simp only [binOp, Op.stringOp, this, if_false, Sem.run_pure]; done)

theorem bin_eq {P : Program} {t : TypeId} {x y : Value} {b : Bool} {w : World} (he : binOp .eql t x y = (do pure (.bool (← Op.equal t x y)))) (h : (Op.equalIn 10000 t x y).run P w = .ok b w) :
    (binOp .eql t x y).run P w = .ok (.bool b) w := by
  rw [he]
  have h' : (Op.equal t x y).run P w = .ok b w := h
  simp only [Sem.run_bind, h', Result.andThen_ok, Sem.run_pure]
theorem bin_ne {P : Program} {t : TypeId} {x y : Value} {b : Bool} {w : World} (he : binOp .neq t x y = (do pure (.bool (!(← Op.equal t x y))))) (h : (Op.equalIn 10000 t x y).run P w = .ok b w) :
    (binOp .neq t x y).run P w = .ok (.bool (!b)) w := by
  rw [he]
  have h' : (Op.equal t x y).run P w = .ok b w := h
  simp only [Sem.run_bind, h', Result.andThen_ok, Sem.run_pure]
section
variable {P : Program} {t : TypeId} {w : World} (d : Nat)
theorem equalIn_bool (h : P.underlying t = some .bool) (a b : Bool) : (Op.equalIn (d + 1) t (.bool a) (.bool b)).run P w = .ok (a == b) w := by
  simp [Op.equalIn, run_underlying h]
theorem equalIn_ptr_nil {e : TypeId} (h : P.underlying t = some (.pointer e)) (p : Option Addr) : (Op.equalIn (d + 1) t (.pointer p) (.pointer none)).run P w = .ok p.isNone w := by
  cases p <;> simp [Op.equalIn, run_underlying h]
theorem equalIn_iface_nil {m} (h : P.underlying t = some (.interface m)) (u : TypeId) (v : Value) : (Op.equalIn (d + 1) t (.iface u v) .nilIface).run P w = .ok false w := by
  simp [Op.equalIn, run_underlying h]
theorem equalIn_nil_iface {m} (h : P.underlying t = some (.interface m)) (u : TypeId) (v : Value) : (Op.equalIn (d + 1) t .nilIface (.iface u v)).run P w = .ok false w := by
  simp [Op.equalIn, run_underlying h]
theorem equalIn_other {m} (h : P.underlying t = some (.interface m)) {t1 t2 : TypeId} (hne : t1 ≠ t2) (u v : Value) : (Op.equalIn (d + 1) t (.iface t1 u) (.iface t2 v)).run P w = .ok false w := by
  simp [Op.equalIn, run_underlying h, hne]
theorem equalIn_ints {m} (h : P.underlying t = some (.interface m)) {t1 : TypeId} {i : TI} (hi : TIOk P t1 i) {k0 : IntKind} (hd : i.desc = .int k0) (hc : i.cmp = true) (a b : Int) : (Op.equalIn (d + 2) t (.iface t1 (.int .i64 a)) (.iface t1 (.int .i64 b))).run P w = .ok (decide (a = b)) w := by
  obtain ⟨x, hx, hr, _, _, _, hcmp⟩ := run_info hi w
  have hu : P.underlying t1 = some (.int k0) := hd ▸ hi.desc
  rw [hc] at hcmp
  simp [Op.equalIn, run_underlying h, hr, hcmp, run_underlying hu]
  rfl
theorem equalIn_nil_nil {m} (h : P.underlying t = some (.interface m)) : (Op.equalIn (d + 1) t .nilIface .nilIface).run P w = .ok true w := by
  simp [Op.equalIn, run_underlying h]
theorem equalIn_slice_nil {e : TypeId} (h : P.underlying t = some (.slice e)) (p : Option Addr) (l m l' m' : Nat) : (Op.equalIn (d + 1) t (.slice p l m) (.slice none l' m')).run P w = .ok p.isNone w := by
  cases p <;> simp [Op.equalIn, run_underlying h]
end
theorem evBin_ok {P : Program} {T : Tab} (hT : T.ok P) {nw : Bool} {op : BinOp} {t : TypeId} {x y : Operand} {a b : Value} {c : Option Prop} {v : Value}
    (h : evBin T nw op t (isConstO x) (isConstO y) a b = some (c, v)) (hc : Holds c) (w : World) :
    (do eqGuard op t x y a b; binOp op t a b).run P w = .ok v w := by
  have fin : (binOp op t a b).run P w = .ok v w → (∀ xs ys, ¬ (a = .agg xs ∧ b = .agg ys)) → (a = .nilIface → b = .nilIface → (isConstO x || isConstO y) = true) →
      (do eqGuard op t x y a b; binOp op t a b).run P w = .ok v w := fun h1 h2 h3 => by
    simp only [Sem.run_bind, guard_free h2 h3, Result.andThen_ok]; exact h1
  cases a with
  | int k a =>
    cases b with
    | int k' b =>
      refine fin ?_ (by simp) (by simp)
      cases op
      case shl =>
        simp only [evBin, Option.some.injEq, Prod.mk.injEq] at h
        obtain ⟨rfl, rfl⟩ := h
        have hb : ¬ b < 0 := by simp only [Holds] at hc; omega
        simp only [binOp, Op.shift, hb, if_false, Sem.run_pure, shlV]
      case shr =>
        simp only [evBin, Option.some.injEq, Prod.mk.injEq] at h
        obtain ⟨rfl, rfl⟩ := h
        have hb : ¬ b < 0 := by simp only [Holds] at hc; omega
        simp only [binOp, Op.shift, hb, if_false, Sem.run_pure, shrV]
      all_goals
        cases k <;> cases k' <;> simp only [evBin] at h <;> first
          | (cases h; done)
          | exact evInt_ok h hc t w
    | _ => simp [evBin] at h
  | string a =>
    cases b with
    | string b => exact fin (str_ok h hc w) (by simp) (by simp)
    | _ => simp [evBin] at h
  | bool a =>
    cases b with
    | bool b =>
      refine fin ?_ (by simp) (by simp)
      simp only [evBin] at h
      split at h
      · rename_i ht; cases h; exact bin_eq rfl (equalIn_bool 9999 (Tab.find_ok hT ht).desc _ _)
      · rename_i ht; cases h; exact bin_ne rfl (equalIn_bool 9999 (Tab.find_ok hT ht).desc _ _)
      · cases h
    | _ => simp [evBin] at h
  | pointer p =>
    cases b with
    | pointer q =>
      cases q with
      | some q => simp [evBin] at h
      | none =>
        refine fin ?_ (by simp) (by simp)
        simp only [evBin] at h
        split at h
        · rename_i ht; cases h; exact bin_eq rfl (equalIn_ptr_nil 9999 (Tab.find_ok hT ht).desc _)
        · rename_i ht; cases h; exact bin_ne rfl (equalIn_ptr_nil 9999 (Tab.find_ok hT ht).desc _)
        · cases h
    | _ => simp [evBin] at h
  | iface t1 v1 =>
    cases b with
    | iface t2 v2 =>
      refine fin ?_ (by simp) (by simp)
      simp only [evBin] at h
      split at h
      · rename_i ht hb; cases h; exact bin_eq rfl (equalIn_other 9999 (Tab.find_ok hT ht).desc (Nat.ne_of_beq_eq_false hb) _ _)
      · rename_i ht hb; cases h; exact bin_ne rfl (equalIn_other 9999 (Tab.find_ok hT ht).desc (Nat.ne_of_beq_eq_false hb) _ _)
      · rename_i ht hb
        have hb := Nat.eq_of_beq_eq_true hb
        subst hb
        split at h
        · rename_i h1; cases h; exact bin_eq rfl (equalIn_ints 9998 (Tab.find_ok hT ht).desc (Tab.find_ok hT h1) rfl rfl _ _)
        · cases h
      · rename_i ht hb
        have hb := Nat.eq_of_beq_eq_true hb
        subst hb
        split at h
        · rename_i h1; cases h; exact bin_ne rfl (equalIn_ints 9998 (Tab.find_ok hT ht).desc (Tab.find_ok hT h1) rfl rfl _ _)
        · cases h
      · cases h
    | nilIface =>
      refine fin ?_ (by simp) (by simp)
      simp only [evBin] at h
      split at h
      · rename_i ht; cases h; exact bin_eq rfl (equalIn_iface_nil 9999 (Tab.find_ok hT ht).desc _ _)
      · rename_i ht; cases h; exact bin_ne rfl (equalIn_iface_nil 9999 (Tab.find_ok hT ht).desc _ _)
      · cases h
    | _ => simp [evBin] at h
  | nilIface =>
    cases b with
    | iface t1 v1 =>
      refine fin ?_ (by simp) (by simp)
      simp only [evBin] at h
      split at h
      · rename_i ht; cases h; exact bin_eq rfl (equalIn_nil_iface 9999 (Tab.find_ok hT ht).desc _ _)
      · rename_i ht; cases h; exact bin_ne rfl (equalIn_nil_iface 9999 (Tab.find_ok hT ht).desc _ _)
      · cases h
    | nilIface =>
      simp only [evBin] at h
      split at h
      · rename_i ht hc'; cases h; exact fin (bin_eq rfl (equalIn_nil_nil 9999 (Tab.find_ok hT ht).desc)) (by simp) (fun _ _ => hc')
      · rename_i ht hc'; cases h; exact fin (bin_ne rfl (equalIn_nil_nil 9999 (Tab.find_ok hT ht).desc)) (by simp) (fun _ _ => hc')
      · cases h
    | _ => simp [evBin] at h
  | slice p l m =>
    cases b with
    | slice q l' m' =>
      cases q with
      | some q => simp [evBin] at h
      | none =>
        refine fin ?_ (by simp) (by simp)
        simp only [evBin] at h
        split at h
        all_goals first
          | (cases h; done)
          | (rename_i ht; cases h; exact bin_eq rfl (equalIn_slice_nil 9999 (Tab.find_ok hT ht).desc _ _ _ _ _))
          | (rename_i ht; cases h; exact bin_ne rfl (equalIn_slice_nil 9999 (Tab.find_ok hT ht).desc _ _ _ _ _))
    | _ => simp [evBin] at h
  | _ => cases b <;> simp [evBin] at h
end Go.GL
/- One operation's value, out of what the temporaries are known to hold: the operations that only compute. -/
namespace Go.GL
open Go

def nthL : List Value → Nat → Option Value
  | [], _ => none
  | v :: _, 0 => some v
  | _ :: r, n + 1 => nthL r n
def takeL : List Value → Nat → Option (List Value)
  | _, 0 => some []
  | [], _ + 1 => none
  | v :: r, n + 1 => match takeL r n with
    | some l => some (v :: l)
    | none => none
def cutL : List Value → Nat → Nat → Option (List Value)
  | l, 0, n => takeL l n
  | [], _ + 1, _ => none
  | _ :: r, o + 1, n => cutL r o n
theorem nthL_eq (l : List Value) (n : Nat) : nthL l n = l[n]? := by
  induction l generalizing n with
  | nil => rfl
  | cons v r ih => cases n <;> simp [nthL, ih]
theorem takeL_eq {l : List Value} {n : Nat} {r : List Value} (h : takeL l n = some r) : r = l.take n ∧ r.length = n := by
  induction l generalizing n r with
  | nil => cases n <;> simp_all [takeL]
  | cons v t ih =>
    cases n with
    | zero => simp_all [takeL]
    | succ n =>
      simp only [takeL] at h
      split at h
      · rename_i l' hl; cases h; obtain ⟨h1, h2⟩ := ih hl; simp [h1.symm, h2]
      · cases h
theorem cutL_eq {l : List Value} {o n : Nat} {r : List Value} (h : cutL l o n = some r) : r = (l.drop o).take n ∧ r.length = n := by
  induction l generalizing o with
  | nil =>
    cases o with
    | zero => simpa [cutL] using takeL_eq (l := []) (by simpa [cutL] using h)
    | succ o => simp [cutL] at h
  | cons v t ih =>
    cases o with
    | zero => simpa [cutL] using takeL_eq h
    | succ o => simpa using ih (by simpa [cutL] using h)

/-- the condition, and a test besides -/
def Gd.more : Gd → Bool → Gd
  | none, g => some g
  | some p, g => some (p && g)
def cndO : Gd → Option Prop → Option Prop
  | _, none => none
  | q, some p => cnd q p
theorem cndO_ok {q : Gd} {p : Option Prop} (h : Holds (cndO q p)) (hq : q.on) : Holds p := by
  cases p with
  | none => exact trivial
  | some p => exact cnd_ok h hq
/-- where a slice begins that was cut at l -/
def cutA (a : Option Addr) (cap l size : Nat) : Option Addr := if cap = l then a else a.map (·.add (l * size))
def byteAt (s : ByteArray) (i : Int) : Int := ((s.data.toList)[i.toNat]?.getD 0).toNat

def fieldOf (T : Tab) (t : TypeId) (f : Nat) : Option (Field × TI) :=
  match T.find t with
  | some ⟨.struct fs, _, _, _, _, _⟩ => match fs.toList[f]? with
    | some fd => match T.find fd.type with
      | some ti => some (fd, ti)
      | none => none
    | none => none
  | _ => none

def evLen (T : Tab) (t : TypeId) : Value → Option (Option Prop × Value)
  | .slice _ n _ => match T.find t with
    | some ⟨.slice _, _, _, _, _, _⟩ => some (none, .int .i64 n)
    | _ => none
  | .string s => match T.find t with
    | some ⟨.string, _, _, _, _, _⟩ => some (none, .int .i64 s.size)
    | _ => none
  | .agg _ => match T.find t with
    | some ⟨.array n _, _, _, _, _, _⟩ => some (none, .int .i64 n)
    | _ => none
  | _ => none

/-- a bound of a slice expression -/
def rdO (q : Gd) (env : Env) : Option Operand → Option (Option (Option Prop × Int))
  | none => some none
  | some x => match rd q env x with
    | some (c, .int _ n) => some (some (c, n))
    | _ => none
/-- a number that is not negative, as it is spelled ('nw'), or cut off at 0 -/
def nat? : Bool → Int → Option Nat
  | true, .ofNat m => some m
  | true, .negSucc _ => none
  | false, n => some n.toNat
theorem nat?_ok {nw : Bool} {n : Int} {m : Nat} (h : nat? nw n = some m) (h0 : 0 ≤ n) : n.toNat = m := by
  cases nw with
  | true =>
    cases n with
    | ofNat k => simp only [nat?, Option.some.injEq] at h; subst h; rfl
    | negSucc k => cases h
  | false => simp only [nat?, Option.some.injEq] at h; exact h
/-- a slice's bounds: the lower one (if it is told), the upper one -/
def bnds (nw : Bool) (q : Gd) (len cap : Nat) : Option (Option Prop × Int) → Option (Option Prop × Int) → Option (Option Prop × Option Nat × Nat)
  | none, none => some (none, none, len)
  | some (c, l), none => match nat? nw l with
    | some l' => some (andC c (cnd q (0 ≤ l ∧ l ≤ len)), some l', len)
    | none => none
  | none, some (c, h) => match nat? nw h with
    | some h' => some (andC c (cnd q (0 ≤ h ∧ h ≤ cap)), none, h')
    | none => none
  | some (c, l), some (c', h) => match nat? nw l, nat? nw h with
    | some l', some h' => some (andC c (andC c' (cnd q (0 ≤ l ∧ l ≤ h ∧ h ≤ cap))), some l', h')
    | _, _ => none
def evSlice (T : Tab) (nw : Bool) (q : Gd) (t : TypeId) (lo hi : Option (Option Prop × Int)) : Value → Option (Option Prop × Value)
  | .slice a len cap => match T.find t with
    | some ⟨.slice e, _, _, _, _, _⟩ => match T.find e, bnds nw q len cap lo hi with
      | some _, some (c, none, h) => fin c (.slice a h cap)
      | some ⟨_, sz, _, _, _, _⟩, some (c, some l, h) => fin c (.slice (cutA a cap l sz) (h - l) (cap - l))
      | _, _ => none
    | _ => none
  | .string s => match T.find t with
    | some ⟨.string, _, _, _, _, _⟩ => match bnds nw q s.size s.size lo hi with
      | some (c, none, h) => fin c (.string (s.extract 0 h))
      | some (c, some l, h) => fin c (.string (s.extract l h))
      | none => none
    | _ => none
  | .pointer (some a) => match T.find t with
    | some ⟨.array n e, _, _, _, _, _⟩ => match T.find e, bnds nw q n n lo hi with
      | some _, some (c, none, h) => fin c (.slice (some a) h n)
      | some ⟨_, sz, _, _, _, _⟩, some (c, some l, h) => fin c (.slice (cutA (some a) n l sz) (h - l) (n - l))
      | _, _ => none
    | _ => none
  | _ => none

def evCall (q : Gd) (T : Tab) (env : Env) : Call → Option (Option Prop × Value)
  | ⟨.builtin .len, ⟨[x]⟩, ⟨[t]⟩⟩ => match rd q env x with
    | some (c, v) => match evLen T t v with
      | some (c', v') => fin (andC c c') v'
      | none => none
    | none => none
  | ⟨.builtin .min, ⟨[x, y]⟩, _⟩ => match rd q env x, rd q env y with
    | some (c1, .int k a), some (c2, .int _ b) => fin (andC c1 c2) (.int k (if b < a then b else a))
    | _, _ => none
  | ⟨.builtin .max, ⟨[x, y]⟩, _⟩ => match rd q env x, rd q env y with
    | some (c1, .int k a), some (c2, .int _ b) => fin (andC c1 c2) (.int k (if a < b then b else a))
    | _, _ => none
  | _ => none
def ev (T : Tab) (nw : Bool) (q : Gd) (env : Env) : Op → Option (Option Prop × Value)
  | .move x => rd q env x
  | .assign x => rd q env x
  | .pick c a b => match rd q env c with
    | some (cc, .bool g) => match rd (q.more g) env a, rd (q.more (!g)) env b with
      | some (ca, .bool x), some (cb, .bool y) => fin (andC cc (andC ca cb)) (.bool (bif g then x else y))
      | _, _ => none
    | _ => none
  | .nilCheck x => match rd q env x with
    | some (c, .pointer (some a)) => some (c, .pointer (some a))
    | some (c, .iface t v) => some (c, .iface t v)
    | _ => none
  | .binOp op t x y _ => match rd q env x, rd q env y with
    | some (c1, a), some (c2, b) => match evBin T nw op t (isConstO x) (isConstO y) a b with
      | some (c3, v) => fin (andC c1 (andC c2 (cndO q c3))) v
      | none => none
    | _, _ => none
  | .unOp op _ x => match op, rd q env x with
    | .not, some (c, .bool b) => some (c, .bool (!b))
    | .neg, some (c, .int k n) => match nw with
      | true => fin (andC c (cndO q (fitC k (0 - n)))) (.int k (0 - n))
      | false => some (c, .int k (k.wrap (0 - n)))
    | .xor, some (c, .int k n) => some (c, .int k (bitsV .xor k (if k.signed then -1 else k.max) n))
    | _, _ => none
  | .convert s d x => match T.find s, T.find d, rd q env x with
    | some _, some ⟨.int k, _, _, _, _, _⟩, some (c, .int _ n) => match nw with
      | true => fin (andC c (cndO q (fitC k n))) (.int k n)
      | false => some (c, .int k (k.wrap n))
    | some _, some ⟨.string, _, _, _, _, _⟩, some (c, .string x) => some (c, .string x)
    | _, _, _ => none
  | .makeInterface t x => match T.find t, rd q env x with
    | some ⟨.interface _, _, _, _, _, _⟩, _ => none
    | some _, some (c, v) => some (c, .iface t v)
    | _, _ => none
  | .field t x f => match fieldOf T t f, rd q env x with
    | some (fd, ti), some (c, .agg cs) => match ti.agg with
      | true => match cutL cs.toList fd.offset ti.size with
        | some l => some (c, .agg l.toArray)
        | none => none
      | false => match nthL cs.toList fd.offset with
        | some v => some (c, v)
        | none => none
    | _, _ => none
  | .extract x i => match rd q env x with
    | some (c, .tuple vs) => match nthL vs.toList i with
      | some v => some (c, v)
      | none => none
    | _ => none
  | .fieldAddr t x f => match fieldOf T t f, rd q env x with
    | some (⟨_, _, o, _, _, _, _⟩, ⟨_, _ + 1, _, _, _, _⟩), some (c, .pointer (some ⟨b, off, none⟩)) => some (c, .pointer (some ⟨b, off + o, none⟩))
    | _, _ => none
  | .indexAddr t x ix => match rd q env ix, rd q env x, T.find t with
    | some (c1, .int _ i), some (c2, .slice (some ⟨b, off, none⟩) len _), some ⟨.slice e, _, _, _, _, _⟩ => match T.find e, nat? nw i with
      | some ⟨_, sz, _, _, _, _⟩, some i' => fin (andC c1 (andC c2 (cnd q (0 ≤ i ∧ i < len)))) (.pointer (some ⟨b, off + i' * sz, none⟩))
      | _, _ => none
    | some (c1, .int _ i), some (c2, .pointer (some ⟨b, off, none⟩)), some ⟨.array len e, _, _, _, _, _⟩ => match T.find e, nat? nw i with
      | some ⟨_, sz, _, _, _, _⟩, some i' => fin (andC c1 (andC c2 (cnd q (0 ≤ i ∧ i < len)))) (.pointer (some ⟨b, off + i' * sz, none⟩))
      | _, _ => none
    | _, _, _ => none
  | .index t x ix => match rd q env ix, rd q env x, T.find t with
    | some (c1, .int _ i), some (c2, .string s), some ⟨.string, _, _, _, _, _⟩ => fin (andC c1 (andC c2 (cnd q (0 ≤ i ∧ i < s.size)))) (.int .u8 (byteAt s i))
    | some (c1, .int _ i), some (c2, .agg cs), some ⟨.array len e, _, _, _, _, _⟩ => match T.find e, nat? nw i with
      | some ⟨_, sz, _, _, false, _⟩, some i' => match nthL cs.toList (i' * sz) with
        | some v => fin (andC c1 (andC c2 (cnd q (0 ≤ i ∧ i < len)))) v
        | none => none
      | _, _ => none
    | _, _, _ => none
  | .slice t x lo hi none => match rdO q env lo, rdO q env hi, rd q env x with
    | some l, some h, some (c, v) => match evSlice T nw q t l h v with
      | some (c', v') => fin (andC c c') v'
      | none => none
    | _, _, _ => none
  | .call cl => evCall q T env cl
  | _ => none
end Go.GL
/- The operations that only compute: what GLd says of them is what the model does. -/
namespace Go.GL
open Go

theorem val_run {P : Program} {s : Sem Value} {v : Value} {w : World} (h : s.run P w = .ok v w) : (do pure (Next.value (← s)) : Sem Next).run P w = .ok (.value v) w := by
  simp only [Sem.run_bind, h, Result.andThen_ok, Sem.run_pure]
theorem addr_add (b off n : Nat) : (⟨b, off, none⟩ : Addr).add n = ⟨b, off + n, none⟩ := by
  unfold Addr.add; split
  · simp_all
  · rfl
theorem fieldOf_ok {P : Program} {T : Tab} (hT : T.ok P) {t f : Nat} {fd : Field} {ti : TI} (h : fieldOf T t f = some (fd, ti)) :
    ∃ fs : Array Field, P.underlying t = some (.struct fs) ∧ fs[f]? = some fd ∧ TIOk P fd.type ti := by
  unfold fieldOf at h
  split at h
  · rename_i fs _ _ _ _ _ ht
    split at h
    · rename_i fd' hf
      split at h
      · rename_i ti' hti
        cases h
        exact ⟨fs, (Tab.find_ok hT ht).desc, by simpa using hf, Tab.find_ok hT hti⟩
      · cases h
    · cases h
  · cases h
theorem bound_ok {P : Program} {k : IntKind} {n : Int} {y : Nat} (code : BoundsCode) (h0 : 0 ≤ n) (h1 : n ≤ y) (w : World) : (Instr.sliceBound (.int k n) y code).run P w = .ok n.toNat w := by
  simp [Instr.sliceBound, asIntOf, h0, h1]
theorem rdO_ok {N : Nat} {env : Env} {a : Act} (h : Agree N env a) {q : Gd} {x : Option Operand} {r : Option (Option Prop × Int)} (e : rdO q env x = some r) (hq : q.on) :
    (x = none ∧ r = none) ∨ ∃ y c n, x = some y ∧ r = some (c, n) ∧ (Holds c → ∃ k, a.eval y = .int k n) := by
  cases x with
  | none => left; simp only [rdO, Option.some.injEq] at e; exact ⟨rfl, e.symm⟩
  | some y =>
    right
    simp only [rdO] at e
    cases hr : rd q env y with
    | none => rw [hr] at e; cases e
    | some z =>
      rw [hr] at e
      obtain ⟨c, v⟩ := z
      cases v <;> simp only [Option.some.injEq] at e <;> first | (cases e; done) | skip
      rename_i k n
      exact ⟨y, c, n, rfl, e.symm, fun hc => ⟨k, rd_ok h hr hc hq⟩⟩

theorem bounds_ok {P : Program} {N : Nat} {env : Env} {a : Act} (ha : Agree N env a) {nw : Bool} {q : Gd} (hq : q.on) {lo hi : Option Operand} {l h : Option (Option Prop × Int)}
    (hl : rdO q env lo = some l) (hh : rdO q env hi = some h) (s : Bool) {len cap : Nat} {c : Option Prop} {x : Option Nat} {y : Nat} (hb : bnds nw q len cap l h = some (c, x, y)) (hc : Holds c) (w : World) :
    (Instr.sliceBounds s len cap (lo.map a.eval) (hi.map a.eval) none).run P w = .ok (x.getD 0, y, cap) w := by
  rcases rdO_ok ha hl hq with ⟨rfl, rfl⟩ | ⟨u, c1, n, rfl, rfl, hx⟩ <;> rcases rdO_ok ha hh hq with ⟨rfl, rfl⟩ | ⟨z, c2, m, rfl, rfl, hy⟩
  · simp only [bnds, Option.some.injEq, Prod.mk.injEq] at hb
    obtain ⟨rfl, rfl, rfl⟩ := hb
    simp [Instr.sliceBounds]
  · simp only [bnds] at hb
    split at hb
    · rename_i h' hn
      cases hb
      obtain ⟨cl, hc⟩ := holds_andC hc
      obtain ⟨h0, h1⟩ := cnd_ok hc hq
      obtain ⟨k, e⟩ := hy cl
      simp [Instr.sliceBounds, e, bound_ok _ h0 h1, nat?_ok hn h0]
    · cases hb
  · simp only [bnds] at hb
    split at hb
    · rename_i h' hn
      cases hb
      obtain ⟨cl, hc⟩ := holds_andC hc
      obtain ⟨h0, h1⟩ := cnd_ok hc hq
      obtain ⟨k, e⟩ := hx cl
      simp [Instr.sliceBounds, e, bound_ok _ h0 h1, nat?_ok hn h0]
    · cases hb
  · simp only [bnds] at hb
    split at hb
    · rename_i l' h' hn hn'
      cases hb
      obtain ⟨cl, hc⟩ := holds_andC hc
      obtain ⟨ch, hc⟩ := holds_andC hc
      obtain ⟨h0, h1, h2⟩ := cnd_ok hc hq
      obtain ⟨k, e⟩ := hx cl
      obtain ⟨k', e'⟩ := hy ch
      have hy' := nat?_ok hn' (show 0 ≤ m by omega)
      subst hy'
      simp [Instr.sliceBounds, e, e', bound_ok _ (show 0 ≤ m by omega) h2, bound_ok (P := P) .sliceB h0 (show n ≤ (m.toNat : Nat) by omega), nat?_ok hn h0]
    · cases hb

theorem cutA_zero (a : Option Addr) (cap size : Nat) : cutA a cap 0 size = a := by
  unfold cutA
  split
  · rfl
  · cases a <;> simp [Addr.add]
section
variable {P : Program} {T : Tab} {N : Nat} {env : Env} {a : Act} {q : Gd} {nw : Bool} {o : Oper} {c : Option Prop} {v : Value}
theorem evSlice_ok (hT : T.ok P) (ha : Agree N env a) (hq : q.on) {t : TypeId} {x lo hi} {l h : Option (Option Prop × Int)} {u : Value} {c0 : Option Prop} (hx : rd q env x = some (c0, u)) (hc0 : Holds c0)
    (hl : rdO q env lo = some l) (hh : rdO q env hi = some h) (he : evSlice T nw q t l h u = some (c, v)) (hc : Holds c) (w : World) :
    (Instr.sliceAt t (a.eval x) (lo.map a.eval) (hi.map a.eval) none).run P w = .ok v w := by
  rw [rd_ok ha hx hc0 hq]
  cases u with
  | slice p len cap =>
    simp only [evSlice] at he
    split at he
    · rename_i e _ _ _ _ _ ht
      have hu := (Tab.find_ok hT ht).desc
      split at he
      · rename_i ti c1 y1 hti hb
        obtain ⟨rfl, rfl⟩ := fin_eq he
        have hz := cutA_zero p cap ti.size
        unfold cutA at hz
        simp only [Instr.sliceAt, Instr.slice, Sem.run_bind, run_underlying hu, Result.andThen_ok, bounds_ok ha hq hl hh true hb hc, run_size (Tab.find_ok hT hti), Sem.run_pure, Option.getD_none, hz, Nat.sub_zero]
      · rename_i dsc sz by_ z ag cm c1 x1 y1 hti hb
        obtain ⟨rfl, rfl⟩ := fin_eq he
        simp only [Instr.sliceAt, Instr.slice, Sem.run_bind, run_underlying hu, Result.andThen_ok, bounds_ok ha hq hl hh true hb hc, run_size (Tab.find_ok hT hti), Sem.run_pure, Option.getD_some, cutA]
      · cases he
    · cases he
  | string s =>
    simp only [evSlice] at he
    split at he
    · rename_i _ _ _ _ _ ht
      have hu := (Tab.find_ok hT ht).desc
      split at he
      · rename_i hb
        obtain ⟨rfl, rfl⟩ := fin_eq he
        simp [Instr.sliceAt, Instr.slice, Sem.run_bind, run_underlying hu, bounds_ok (P := P) ha hq hl hh false hb hc]
      · rename_i hb
        obtain ⟨rfl, rfl⟩ := fin_eq he
        simp [Instr.sliceAt, Instr.slice, Sem.run_bind, run_underlying hu, bounds_ok (P := P) ha hq hl hh false hb hc]
      · cases he
    · cases he
  | pointer p =>
    cases p with
    | none => simp [evSlice] at he
    | some p =>
      simp only [evSlice] at he
      split at he
      · rename_i n e _ _ _ _ _ ht
        have hu := (Tab.find_ok hT ht).desc
        split at he
        · rename_i ti c1 y1 hti hb
          obtain ⟨rfl, rfl⟩ := fin_eq he
          have hz := cutA_zero (some p) n ti.size
          simp only [Instr.sliceAt, Instr.sureAddr, Sem.run_bind, run_underlying hu, Result.andThen_ok, bounds_ok ha hq hl hh false hb hc, run_size (Tab.find_ok hT hti), Sem.run_pure, Option.getD_none, Nat.sub_zero]
          split <;> simp [Addr.add]
        · rename_i dsc sz by_ z ag cm c1 x1 y1 hti hb
          obtain ⟨rfl, rfl⟩ := fin_eq he
          simp only [Instr.sliceAt, Instr.sureAddr, Sem.run_bind, run_underlying hu, Result.andThen_ok, bounds_ok ha hq hl hh false hb hc, run_size (Tab.find_ok hT hti), Sem.run_pure, Option.getD_some, cutA]
          split <;> simp_all
        · cases he
      · cases he
  | _ => simp [evSlice] at he

theorem evLen_ok (hT : T.ok P) {t : TypeId} {u : Value} (he : evLen T t u = some (c, v)) (w : World) : (Builtin.len_ #[t] o.type #[u]).run P w = .ok v w := by
  cases u <;> simp only [evLen] at he <;> first
    | (cases he; done)
    | (split at he
       · rename_i ht; cases he
         have hu := (Tab.find_ok hT ht).desc
         simp [Builtin.len_, run_underlying hu, goInt]
       · cases he)

theorem ev_ok (hT : T.ok P) (he : ev T nw q env o.op = some (c, v)) (hc : Holds c) (hq : q.on) (ha : Agree N env a) (w : World) : (execOp a.eval o).run P w = .ok (.value v) w := by
  obtain ⟨dst, op, type, pos, after, guard⟩ := o
  simp only at he
  cases op with
  | move x =>
    have := rd_ok ha he hc hq
    simp only [execOp, this, Sem.run_pure]
  | assign x =>
    have := rd_ok ha he hc hq
    simp only [execOp, this, Sem.run_pure]
  | pick z x y =>
    simp only [ev] at he
    split at he
    · rename_i cc g hz
      split at he
      · rename_i ca x' cb y' hx hy
        obtain ⟨rfl, rfl⟩ := fin_eq he
        obtain ⟨c1, hc⟩ := holds_andC hc
        obtain ⟨c2, c3⟩ := holds_andC hc
        have ez := rd_ok ha hz c1 hq
        simp only [execOp, ez, asBool, Sem.run_bind, Sem.run_pure, Result.andThen_ok]
        cases g with
        | true =>
          have : (q.more true).on := by cases q <;> simp_all [Gd.more, Gd.on]
          rw [rd_ok ha hx c2 this]; rfl
        | false =>
          have : (q.more (!false)).on := by cases q <;> simp_all [Gd.more, Gd.on]
          rw [rd_ok ha hy c3 this]; rfl
      · cases he
    · cases he
  | nilCheck x =>
    simp only [ev] at he
    split at he
    · rename_i c' p hx; cases he
      simp only [execOp, rd_ok ha hx hc hq, Sem.run_pure]
    · rename_i c' t' v' hx; cases he
      simp only [execOp, rd_ok ha hx hc hq, Sem.run_pure]
    · cases he
  | binOp op t x y yt =>
    simp only [ev] at he
    split at he
    · rename_i c1 u c2 u' hx hy
      split at he
      · rename_i c3 v' hb
        obtain ⟨rfl, rfl⟩ := fin_eq he
        obtain ⟨h1, hc⟩ := holds_andC hc
        obtain ⟨h2, h3⟩ := holds_andC hc
        simp only [execOp, rd_ok ha hx h1 hq, rd_ok ha hy h2 hq]
        exact val_run (evBin_ok hT hb (cndO_ok h3 hq) w)
      · cases he
    · cases he
  | unOp op t x =>
    simp only [ev] at he
    split at he
    · rename_i c' b hx; cases he
      simp only [execOp, rd_ok ha hx hc hq, Op.unary, Sem.run_bind, Sem.run_pure, Result.andThen_ok]
    · rename_i c' k n hx
      cases nw with
      | true =>
        obtain ⟨rfl, rfl⟩ := fin_eq he
        obtain ⟨h1, h2⟩ := holds_andC hc
        simp only [execOp, rd_ok ha hx h1 hq, Op.unary, Op.intArith, Sem.run_bind, Sem.run_pure, Result.andThen_ok, wrap_fit (fitC_ok (cndO_ok h2 hq))]
      | false =>
        cases he
        simp only [execOp, rd_ok ha hx hc hq, Op.unary, Op.intArith, Sem.run_bind, Sem.run_pure, Result.andThen_ok]
    · rename_i c' k n hx
      cases he
      simp only [execOp, rd_ok ha hx hc hq, Op.unary, Op.intBits, Sem.run_bind, Sem.run_pure, Result.andThen_ok, bitsV]
    · cases he
  | convert s d x =>
    simp only [ev] at he
    split at he
    · rename_i is k _ _ _ _ _ c' k' n hs hd hx
      have us := (Tab.find_ok hT hs).desc
      have ud := (Tab.find_ok hT hd).desc
      cases nw with
      | true =>
        obtain ⟨rfl, rfl⟩ := fin_eq he
        obtain ⟨h1, h2⟩ := holds_andC hc
        have e := rd_ok ha hx h1 hq
        simp only [execOp, convert, Sem.run_bind, run_underlying us, run_underlying ud, Result.andThen_ok, e, Conv.intToInt, Sem.run_pure, wrap_fit (fitC_ok (cndO_ok h2 hq))]
      | false =>
        cases he
        have e := rd_ok ha hx hc hq
        simp only [execOp, convert, Sem.run_bind, run_underlying us, run_underlying ud, Result.andThen_ok, e, Conv.intToInt, Sem.run_pure]
    · rename_i is _ _ _ _ _ c' x' hs hd hx
      have us := (Tab.find_ok hT hs).desc
      have ud := (Tab.find_ok hT hd).desc
      cases he
      have e := rd_ok ha hx hc hq
      simp only [execOp, convert, Sem.run_bind, run_underlying us, run_underlying ud, Result.andThen_ok, e]
      cases is.desc <;> simp
    · cases he
  | makeInterface t x =>
    simp only [ev] at he
    split at he
    · cases he
    · rename_i ti c' v' hn ht hx
      cases he
      have e := rd_ok ha hx hc hq
      have u := (Tab.find_ok hT ht).desc
      simp only [execOp, Instr.makeInterface, Sem.run_bind, run_underlying u, Result.andThen_ok, e]
      split
      · rename_i ms hd
        obtain ⟨d, _, _, _, _, _⟩ := ti
        simp only at hd
        subst hd
        exact (hn _ _ _ _ _ _ rfl).elim
      · simp
    · cases he
  | field t x f =>
    simp only [ev] at he
    split at he
    · rename_i fd ti c' cs hf hx
      obtain ⟨fs, u, e1, e2⟩ := fieldOf_ok hT hf
      cases hag : ti.agg with
      | true =>
        rw [hag] at he
        simp only [] at he
        split at he
        · rename_i l hl
          cases he
          obtain ⟨h1, h2⟩ := cutL_eq hl
          simp only [execOp, Instr.field, Sem.run_bind, run_underlying u, Result.andThen_ok, e1, rd_ok ha hx hc hq, asAgg, part, Sem.run_pure, run_isAgg e2, hag, if_true, run_size e2]
          have e3 : cs.extract fd.offset (fd.offset + ti.size) = l.toArray := by
            apply Array.ext'
            simp [h1, List.extract_eq_take_drop]
          rw [e3]
        · cases he
      | false =>
        rw [hag] at he
        simp only [] at he
        split at he
        · rename_i v' hl
          cases he
          rw [nthL_eq] at hl
          simp only [execOp, Instr.field, Sem.run_bind, run_underlying u, Result.andThen_ok, e1, rd_ok ha hx hc hq, asAgg, part, Sem.run_pure, run_isAgg e2, hag]
          have : cs[fd.offset]? = some v := by simpa using hl
          simp [this]
        · cases he
    · cases he
  | extract x i =>
    simp only [ev] at he
    split at he
    · rename_i c' vs hx
      split at he
      · rename_i v' hl
        cases he
        rw [nthL_eq] at hl
        have : vs[i]? = some v := by simpa using hl
        simp [execOp, rd_ok ha hx hc hq, Instr.extract, this]
      · cases he
    · cases he
  | fieldAddr t x f =>
    simp only [ev] at he
    split at he
    · rename_i nm ty of_ em tg pk bo dsc sz by_ z ag cm c' b off hf hx
      obtain ⟨fs, u, e1, e2⟩ := fieldOf_ok hT hf
      cases he
      simp only [execOp, Instr.fieldAt, Sem.run_bind, run_underlying u, Result.andThen_ok, e1, rd_ok ha hx hc hq, Instr.sureAddr, Sem.run_pure, fieldPlace, run_size e2]
      simp [addr_add]
    · cases he
  | indexAddr t x ix =>
    simp only [ev] at he
    split at he
    · rename_i c1 k i c2 b off len cap e _ _ _ _ _ hi hx ht
      split at he
      · rename_i dsc sz by_ z ag cm i' hti hn
        obtain ⟨rfl, rfl⟩ := fin_eq he
        obtain ⟨h1, hc⟩ := holds_andC hc
        obtain ⟨h2, h3⟩ := holds_andC hc
        obtain ⟨h4, h5⟩ := cnd_ok h3 hq
        have u := (Tab.find_ok hT ht).desc
        simp [execOp, Instr.indexAt, rd_ok ha hi h1 hq, rd_ok ha hx h2 hq, asIntOf, run_underlying u, h4, h5, run_size (Tab.find_ok hT hti), addr_add, nat?_ok hn h4]
      · cases he
    · rename_i c1 k i c2 b off len e _ _ _ _ _ hi hx ht
      split at he
      · rename_i dsc sz by_ z ag cm i' hti hn
        obtain ⟨rfl, rfl⟩ := fin_eq he
        obtain ⟨h1, hc⟩ := holds_andC hc
        obtain ⟨h2, h3⟩ := holds_andC hc
        obtain ⟨h4, h5⟩ := cnd_ok h3 hq
        have u := (Tab.find_ok hT ht).desc
        simp [execOp, Instr.indexAt, rd_ok ha hi h1 hq, rd_ok ha hx h2 hq, asIntOf, run_underlying u, Instr.sureAddr, h4, h5, run_size (Tab.find_ok hT hti), addr_add, nat?_ok hn h4]
      · cases he
    · cases he
  | index t x ix =>
    simp only [ev] at he
    split at he
    · rename_i c1 k i c2 s _ _ _ _ _ hi hx ht
      obtain ⟨rfl, rfl⟩ := fin_eq he
      obtain ⟨h1, hc⟩ := holds_andC hc
      obtain ⟨h2, h3⟩ := holds_andC hc
      obtain ⟨h4, h5⟩ := cnd_ok h3 hq
      have u := (Tab.find_ok hT ht).desc
      have hlt : i.toNat < s.size := by omega
      have hlt' : i.toNat < s.data.size := hlt
      have e1 : s[i.toNat]? = some s[i.toNat] := by simp [hlt]
      simp only [execOp, Instr.index, rd_ok ha hi h1 hq, rd_ok ha hx h2 hq, asIntOf, Sem.run_bind, Sem.run_pure, Result.andThen_ok, run_underlying u, h4, if_true, e1, byteAt]
      congr 3
      have e2 : s.data.toList[i.toNat]? = some s[i.toNat] := by
        rw [ByteArray.getElem_eq_getElem_data]
        simp
      rw [e2]; rfl
    · rename_i c1 k i c2 cs len e _ _ _ _ _ hi hx ht
      split at he
      · rename_i dsc sz by_ z cm i' hti hn
        split at he
        · rename_i v' hv
          obtain ⟨rfl, rfl⟩ := fin_eq he
          obtain ⟨h1, hc⟩ := holds_andC hc
          obtain ⟨h2, h3⟩ := holds_andC hc
          obtain ⟨h4, h5⟩ := cnd_ok h3 hq
          have u := (Tab.find_ok hT ht).desc
          rw [nthL_eq] at hv
          have hv' : cs[i' * sz]? = some v := by simpa using hv
          simp [execOp, Instr.index, rd_ok ha hi h1 hq, rd_ok ha hx h2 hq, asIntOf, run_underlying u, h4, h5, run_size (Tab.find_ok hT hti), nat?_ok hn h4, part, run_isAgg (Tab.find_ok hT hti), hv']
        · cases he
      · cases he
    · cases he
  | slice t x lo hi mx =>
    cases mx with
    | some m => simp [ev] at he
    | none =>
      simp only [ev] at he
      split at he
      · rename_i l h c' u hl hh hx
        split at he
        · rename_i c'' v' hs
          obtain ⟨rfl, rfl⟩ := fin_eq he
          obtain ⟨h1, h2⟩ := holds_andC hc
          exact val_run (evSlice_ok hT ha hq hx h1 hl hh hs h2 w)
        · cases he
      · cases he
  | call cl =>
    simp only [ev] at he
    unfold evCall at he
    split at he
    · rename_i x t
      split at he
      · rename_i c' u hx
        split at he
        · rename_i c'' v' hs
          obtain ⟨rfl, rfl⟩ := fin_eq he
          obtain ⟨h1, h2⟩ := holds_andC hc
          simp only [execOp, resolve, Sem.run_bind, Sem.run_pure, Result.andThen_ok, invoke, builtin, List.map_toArray, List.map_cons, List.map_nil, rd_ok ha hx h1 hq]
          rw [evLen_ok (o := ⟨dst, .alloc 0, type, pos, after, guard⟩) hT hs w]
          rfl
        · cases he
      · cases he
    · rename_i x y ats
      split at he
      · rename_i c1 k1 n1 c2 k2 n2 hx hy
        obtain ⟨rfl, rfl⟩ := fin_eq he
        obtain ⟨h1, h2⟩ := holds_andC hc
        simp [execOp, resolve, invoke, builtin, rd_ok ha hx h1 hq, rd_ok ha hy h2 hq, Builtin.min_, Builtin.min2]
      · cases he
    · rename_i x y ats
      split at he
      · rename_i c1 k1 n1 c2 k2 n2 hx hy
        obtain ⟨rfl, rfl⟩ := fin_eq he
        obtain ⟨h1, h2⟩ := holds_andC hc
        simp [execOp, resolve, invoke, builtin, rd_ok ha hx h1 hq, rd_ok ha hy h2 hq, Builtin.max_, Builtin.max2]
      · cases he
    · cases he
  | _ => cases he
end
end Go.GL
