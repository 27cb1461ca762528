/- Heap assertions: lists of assertions on separate parts of memory; plain laws on them. No program in sight. -/
import Derived.WalkKit
import Derived.OrdersHeld
namespace Go.GL
open Go

/-- What lies at a place: a block of memory; at place 0 what the outside has, and what was printed. -/
inductive GObj
  | obj (o : Obj)
  | ghost (os : Os) (out : Array (Nat × ByteArray))
abbrev Hp := Nat → Option GObj
abbrev Assn := Hp → Prop

def Hp.le (h k : Hp) : Prop := ∀ b o, h b = some o → k b = some o
def Hp.disj (h k : Hp) : Prop := ∀ b, h b = none ∨ k b = none
def Hp.join (h k : Hp) : Hp := fun b => (h b).or (k b)
def Hp.minus (k h : Hp) : Hp := fun b => if (h b).isSome then none else k b
def Hp.empty : Hp := fun _ => none

theorem Hp.le_refl (h : Hp) : Hp.le h h := fun _ _ e => e
theorem Hp.le_trans {h k l : Hp} (a : Hp.le h k) (b : Hp.le k l) : Hp.le h l := fun x o e => b x o (a x o e)
theorem Hp.le_join_left (h k : Hp) : Hp.le h (Hp.join h k) := fun b o e => by simp [Hp.join, e]
theorem Hp.le_join_right {h k : Hp} (d : Hp.disj h k) : Hp.le k (Hp.join h k) := fun b o e => by
  rcases d b with d | d
  · simp [Hp.join, d, e]
  · rw [d] at e; cases e
theorem Hp.join_minus {h k : Hp} (l : Hp.le h k) : k = Hp.join h (Hp.minus k h) := by
  funext b
  unfold Hp.join Hp.minus
  cases e : h b with
  | none => simp
  | some o => simp [l b o e]
theorem Hp.disj_minus (h k : Hp) : Hp.disj h (Hp.minus k h) := fun b => by
  unfold Hp.minus
  cases e : h b with
  | none => exact .inl rfl
  | some o => exact .inr (by simp)
theorem Hp.disj_comm {h k : Hp} (d : Hp.disj h k) : Hp.disj k h := fun b => (d b).symm
theorem Hp.join_comm {h k : Hp} (d : Hp.disj h k) : Hp.join h k = Hp.join k h := by
  funext b
  unfold Hp.join
  rcases d b with e | e <;> simp [e]
theorem Hp.join_assoc (h k l : Hp) : Hp.join (Hp.join h k) l = Hp.join h (Hp.join k l) := by
  funext b
  unfold Hp.join
  cases h b <;> simp
theorem Hp.disj_join {h k l : Hp} (a : Hp.disj h l) (b : Hp.disj k l) : Hp.disj (Hp.join h k) l := fun x => by
  rcases a x with e | e
  · rcases b x with f | f
    · left; simp [Hp.join, e, f]
    · exact .inr f
  · exact .inr e
theorem Hp.disj_of_join_left {h k l : Hp} (a : Hp.disj (Hp.join h k) l) : Hp.disj h l := fun x => by
  rcases a x with e | e
  · left; unfold Hp.join at e; cases hh : h x <;> simp_all
  · exact .inr e
theorem Hp.disj_of_join_right {h k l : Hp} (a : Hp.disj (Hp.join h k) l) : Hp.disj k l := fun x => by
  rcases a x with e | e
  · left; unfold Hp.join at e; cases hh : h x <;> simp_all
  · exact .inr e
theorem Hp.disj_mono {h k h' k' : Hp} (d : Hp.disj h' k') (a : Hp.le h h') (b : Hp.le k k') : Hp.disj h k := fun x => by
  rcases d x with e | e
  · left
    cases hh : h x with
    | none => rfl
    | some o => rw [a x o hh] at e; cases e
  · right
    cases hh : k x with
    | none => rfl
    | some o => rw [b x o hh] at e; cases e

/-- The assertions hold of separate parts; the rest of the heap is nobody's. -/
def stars : List Assn → Assn
  | [], _ => True
  | A :: L, h => ∃ h1 h2, Hp.disj h1 h2 ∧ h = Hp.join h1 h2 ∧ A h1 ∧ stars L h2

def hpOf (w : World) : Hp
  | 0 => some (.ghost w.os w.output)
  | b + 1 => (w.heap[b]?).map .obj
theorem hpOf_obj {w : World} {b : Nat} {o : Obj} : hpOf w (b + 1) = some (.obj o) ↔ w.heap[b]? = some o := by
  simp only [hpOf, Option.map_eq_some_iff, GObj.obj.injEq, exists_eq_right]
theorem hpOf_none {w : World} {b : Nat} : hpOf w (b + 1) = none ↔ w.heap[b]? = none := by simp [hpOf]
theorem hpOf_ghost (w : World) : hpOf w 0 = some (.ghost w.os w.output) := rfl
def Sat (L : List Assn) (w : World) : Prop := stars L (hpOf w)
def Up (R : Assn) : Prop := ∀ h k, Hp.le h k → R h → R k

theorem stars_mono : ∀ {L : List Assn} {h k : Hp}, Hp.le h k → stars L h → stars L k
  | [], _, _, _, _ => trivial
  | A :: L, h, k, l, ⟨h1, h2, d, e, a, s⟩ => by
    have l1 : Hp.le h1 k := Hp.le_trans (by rw [e]; exact Hp.le_join_left _ _) l
    have l2 : Hp.le h2 k := Hp.le_trans (by rw [e]; exact Hp.le_join_right d) l
    refine ⟨h1, Hp.minus k h1, Hp.disj_minus _ _, Hp.join_minus l1, a, stars_mono ?_ s⟩
    intro b o hb
    unfold Hp.minus
    rcases d b with e1 | e1
    · simp [e1, l2 b o hb]
    · rw [e1] at hb; cases hb
theorem up_stars (L : List Assn) : Up (stars L) := fun _ _ l s => stars_mono l s

theorem stars_swap {A B : Assn} {L : List Assn} {h : Hp} (s : stars (A :: B :: L) h) : stars (B :: A :: L) h := by
  obtain ⟨h1, h2, d, e, a, h3, h4, d', e', b, s⟩ := s
  subst e'
  have d13 : Hp.disj h1 h3 := Hp.disj_mono d (Hp.le_refl _) (Hp.le_join_left _ _)
  have d14 : Hp.disj h1 h4 := Hp.disj_mono d (Hp.le_refl _) (Hp.le_join_right d')
  refine ⟨h3, Hp.join h1 h4, ?_, ?_, b, h1, h4, d14, rfl, a, s⟩
  · exact Hp.disj_comm (Hp.disj_join d13 (Hp.disj_comm d'))
  · rw [e, ← Hp.join_assoc, ← Hp.join_assoc, Hp.join_comm d13]
theorem stars_cons_mono {A : Assn} {L M : List Assn} (f : ∀ h, stars L h → stars M h) {h : Hp} (s : stars (A :: L) h) : stars (A :: M) h :=
  let ⟨h1, h2, d, e, a, s⟩ := s
  ⟨h1, h2, d, e, a, f _ s⟩
theorem stars_head_mono {A B : Assn} {L : List Assn} (f : ∀ h, A h → B h) {h : Hp} (s : stars (A :: L) h) : stars (B :: L) h :=
  let ⟨h1, h2, d, e, a, s⟩ := s
  ⟨h1, h2, d, e, f _ a, s⟩
theorem stars_drop {A : Assn} {L : List Assn} {h : Hp} (s : stars (A :: L) h) : stars L h :=
  let ⟨_, _, d, e, _, s⟩ := s
  stars_mono (by rw [e]; exact Hp.le_join_right d) s
theorem stars_head {A : Assn} {L : List Assn} {h : Hp} (s : stars (A :: L) h) (u : Up A) : A h :=
  let ⟨_, _, _, e, a, _⟩ := s
  u _ _ (by rw [e]; exact Hp.le_join_left _ _) a
theorem stars_perm {L M : List Assn} (p : L.Perm M) : ∀ {h : Hp}, stars L h → stars M h := by
  induction p with
  | nil => exact fun s => s
  | cons x _ ih => exact fun s => stars_cons_mono (fun _ => ih) s
  | swap x y l => exact fun s => stars_swap s
  | trans _ _ a b => exact fun s => b (a s)
theorem stars_mem {A : Assn} {L : List Assn} (m : A ∈ L) (u : Up A) {h : Hp} (s : stars L h) : A h := by
  induction L generalizing h with
  | nil => cases m
  | cons B L ih =>
    rcases List.mem_cons.1 m with rfl | m
    · exact stars_head s u
    · exact ih m (stars_drop s)
theorem stars_append {M L : List Assn} {h : Hp} : stars (M ++ L) h ↔ stars (stars M :: L) h := by
  induction M generalizing h with
  | nil =>
    constructor
    · exact fun s => ⟨Hp.empty, h, fun _ => .inl rfl, by funext b; simp [Hp.join, Hp.empty], trivial, s⟩
    · exact fun s => stars_drop s
  | cons A M ih =>
    constructor
    · rintro ⟨h1, h2, d, e, a, s⟩
      obtain ⟨h3, h4, d', e', m, l⟩ := ih.1 s
      subst e'
      have d13 : Hp.disj h1 h3 := Hp.disj_mono d (Hp.le_refl _) (Hp.le_join_left _ _)
      have d14 : Hp.disj h1 h4 := Hp.disj_mono d (Hp.le_refl _) (Hp.le_join_right d')
      exact ⟨Hp.join h1 h3, h4, Hp.disj_join d14 d', by rw [e, Hp.join_assoc], ⟨h1, h3, d13, rfl, a, m⟩, l⟩
    · rintro ⟨h1, h2, d, e, ⟨h3, h4, d', e', a, m⟩, l⟩
      subst e'
      have d32 : Hp.disj h3 h2 := Hp.disj_of_join_left d
      have d42 : Hp.disj h4 h2 := Hp.disj_of_join_right d
      exact ⟨h3, Hp.join h4 h2, Hp.disj_comm (Hp.disj_join (Hp.disj_comm d') (Hp.disj_comm d32)), by rw [e, Hp.join_assoc], a, ih.2 ⟨h4, h2, d42, rfl, m, l⟩⟩
theorem stars_ex {α : Type} {A : α → Assn} {L : List Assn} {h : Hp} (s : stars ((fun k => ∃ x, A x k) :: L) h) : ∃ x, stars (A x :: L) h :=
  let ⟨h1, h2, d, e, ⟨x, a⟩, s⟩ := s
  ⟨x, h1, h2, d, e, a, s⟩

/-- The one block 'b': these cells of this type; none of them is frozen. -/
def blk (b : Nat) (c : List Value) (T : TypeId) : Assn := fun h => ∃ fr : Nat × Nat, h (b + 1) = some (.obj (.cells c.toArray T fr)) ∧ (fr.2 ≤ fr.1 ∨ c.length ≤ fr.1)
theorem up_blk (b : Nat) (c : List Value) (T : TypeId) : Up (blk b c T) := fun _ _ l ⟨fr, e, f⟩ => ⟨fr, l _ _ e, f⟩
/-- There is a cell at a place, and it holds a value. -/
def cellAt (b off : Nat) (v : Value) : Assn := fun h => ∃ (c : Array Value) (T : TypeId) (fr : Nat × Nat), h (b + 1) = some (.obj (.cells c T fr)) ∧ c[off]? = some v
theorem up_cellAt (b off : Nat) (v : Value) : Up (cellAt b off v) := fun _ _ l ⟨c, T, fr, e, f⟩ => ⟨c, T, fr, l _ _ e, f⟩

/-- What holds of whatever heap meets the assertions. -/
def Ent (L : List Assn) (R : Assn) : Prop := ∀ h, stars L h → R h
theorem Ent.mem {A : Assn} {L : List Assn} {R : Assn} (m : A ∈ L) (u : Up A) (f : ∀ h, A h → R h) : Ent L R := fun _ s => f _ (stars_mem m u s)
theorem Ent.tail {A : Assn} {L : List Assn} {R : Assn} (e : Ent L R) : Ent (A :: L) R := fun _ s => e _ (stars_drop s)
theorem Ent.blk {b : Nat} {c : List Value} {T : TypeId} {L : List Assn} {off : Nat} {v : Value} (m : blk b c T ∈ L) (e : c[off]? = some v) : Ent L (cellAt b off v) :=
  Ent.mem m (up_blk b c T) fun h ⟨fr, hb, _⟩ => ⟨_, T, fr, hb, by simpa using e⟩
theorem Ent.and {L : List Assn} {R S : Assn} (a : Ent L R) (b : Ent L S) : Ent L (fun h => R h ∧ S h) := fun h s => ⟨a h s, b h s⟩

theorem cell_of_cellAt {w : World} {b off : Nat} {v : Value} (h : cellAt b off v (hpOf w)) : w.cell? ⟨b, off, none⟩ = some v := by
  obtain ⟨c, T, fr, e, f⟩ := h
  have e := hpOf_obj.1 e
  unfold World.cell?
  simp only [e]
  simpa using f

/-- From one list of assertions to another. -/
def Imp (L M : List Assn) : Prop := ∀ h, stars L h → stars M h
theorem Imp.refl (L : List Assn) : Imp L L := fun _ s => s
theorem Imp.trans {L M N : List Assn} (a : Imp L M) (b : Imp M N) : Imp L N := fun h s => b h (a h s)
theorem Imp.perm {L M : List Assn} (p : L.Perm M) : Imp L M := fun _ s => stars_perm p s
theorem Imp.sat {L M : List Assn} (i : Imp L M) {w : World} (s : Sat L w) : Sat M w := i _ s
theorem Imp.cons {A : Assn} {L M : List Assn} (i : Imp L M) : Imp (A :: L) (A :: M) := fun _ s => stars_cons_mono i s
theorem Imp.drop {A : Assn} {L : List Assn} : Imp (A :: L) L := fun _ s => stars_drop s
theorem Imp.dropTail {A : Assn} {L M : List Assn} (i : Imp L M) : Imp (A :: L) M := fun _ s => i _ (stars_drop s)

theorem stars_append_left {M L : List Assn} {h : Hp} (s : stars (M ++ L) h) : stars M h :=
  let ⟨_, _, _, e, a, _⟩ := stars_append.1 s
  stars_mono (by rw [e]; exact Hp.le_join_left _ _) a
theorem stars_one {F : List Assn} {h : Hp} : stars F h ↔ stars [stars F] h := by
  constructor
  · exact fun s => ⟨h, Hp.empty, fun _ => .inr rfl, by funext b; simp [Hp.join, Hp.empty], s, trivial⟩
  · rintro ⟨h1, h2, _, e, s, _⟩
    exact stars_mono (by rw [e]; exact Hp.le_join_left _ _) s
theorem stars_app_one {M F : List Assn} {h : Hp} : stars (M ++ F) h ↔ stars (M ++ [stars F]) h := by
  rw [stars_append, stars_append]
  exact ⟨stars_cons_mono (fun _ s => stars_one.1 s), stars_cons_mono (fun _ s => stars_one.2 s)⟩
theorem Imp.app {L M : List Assn} (i : Imp L M) (F : List Assn) : Imp (L ++ F) (M ++ F) := fun _ s => stars_append.2 (stars_head_mono i (stars_append.1 s))
/-- One assertion taken out of a list. -/
inductive Pick : List Assn → Assn → List Assn → Prop
  | here (A : Assn) (L : List Assn) : Pick (A :: L) A L
  | there {A B : Assn} {L M : List Assn} : Pick L A M → Pick (B :: L) A (B :: M)
theorem Pick.perm {L M : List Assn} {A : Assn} (p : Pick L A M) : L.Perm (A :: M) := by
  induction p with
  | here => exact .refl _
  | there _ ih => exact (ih.cons _).trans (.swap _ _ _)
theorem Pick.imp {L M : List Assn} {A : Assn} (p : Pick L A M) : Imp L (A :: M) := .perm p.perm
theorem Pick.back {L M : List Assn} {A : Assn} (p : Pick L A M) : Imp (A :: M) L := .perm p.perm.symm
/-- Those of the second list, in its order, are taken out of the first; the third is what is left. -/
inductive Picks : List Assn → List Assn → List Assn → Prop
  | nil (L : List Assn) : Picks L [] L
  | cons {L M N A Rs} : Pick L A M → Picks M Rs N → Picks L (A :: Rs) N
theorem Picks.imp {L Rs N : List Assn} (p : Picks L Rs N) : Imp L (Rs ++ N) := by
  induction p with
  | nil => exact Imp.refl _
  | cons p _ ih => exact p.imp.trans ih.cons

theorem Imp.sub {L Rs N : List Assn} (p : Picks L Rs N) : Imp L Rs := fun _ s => stars_append_left (p.imp _ s)
/-- The heap may have grown, and nothing that was there has changed. -/
def Ext (w w' : World) : Prop := Hp.le (hpOf w) (hpOf w')
theorem Ext.refl (w : World) : Ext w w := Hp.le_refl _
theorem Ext.trans {a b c : World} (x : Ext a b) (y : Ext b c) : Ext a c := Hp.le_trans x y
theorem Sat.ext {L : List Assn} {w w' : World} (s : Sat L w) (x : Ext w w') : Sat L w' := stars_mono x s
theorem hpOf_heap {w w' : World} (h : w'.heap = w.heap) (h1 : w'.os = w.os) (h2 : w'.output = w.output) : hpOf w' = hpOf w := by
  funext k
  cases k with
  | zero => simp only [hpOf, h1, h2]
  | succ k => simp only [hpOf, h]
theorem Ext.of_heap {w w' : World} (h : w'.heap = w.heap) (h1 : w'.os = w.os) (h2 : w'.output = w.output) : Ext w w' := fun b o e => by rw [hpOf_heap h h1 h2]; exact e
theorem Ext.os {w w' : World} (h : Ext w w') : w'.os = w.os ∧ w'.output = w.output := by
  have := h 0 _ (hpOf_ghost w)
  rw [hpOf_ghost] at this
  simp only [Option.some.injEq, GObj.ghost.injEq] at this
  exact this
theorem Ext.block {w w' : World} (h : Ext w w') {b : Nat} (hb : b < w.heap.size) : w'.heap[b]? = w.heap[b]? := by
  rw [Array.getElem?_eq_getElem hb]
  exact hpOf_obj.1 (h (b + 1) _ (hpOf_obj.2 (Array.getElem?_eq_getElem hb)))
theorem Ext.size {w w' : World} (h : Ext w w') : w.heap.size ≤ w'.heap.size := by
  by_cases e : w.heap.size = 0
  · omega
  · have hlt : w.heap.size - 1 < w.heap.size := by omega
    have h2 := h.block hlt
    rw [Array.getElem?_eq_getElem hlt] at h2
    have := (Array.getElem?_eq_some_iff.1 h2).1
    omega
/-- All that was there when the call began, as it was. -/
def old (w : World) : Assn := fun h => Hp.le (hpOf w) h
theorem up_old (w : World) : Up (old w) := fun _ _ l a => Hp.le_trans a l
theorem Sat.old (w : World) : Sat [old w] w :=
  ⟨hpOf w, Hp.empty, fun _ => .inr rfl, by funext b; simp [Hp.join, Hp.empty], Hp.le_refl _, trivial⟩
theorem ext_of_old {w w' : World} {L : List Assn} (m : GL.old w ∈ L) (s : Sat L w') : Ext w w' := stars_mem m (up_old w) s
theorem Ent.old {w : World} {L : List Assn} {R : Assn} (m : GL.old w ∈ L) (u : Up R) (r : R (hpOf w)) : Ent L R :=
  Ent.mem m (up_old w) fun _ a => u _ _ a r

/-- A new block. -/
theorem Sat.new {L : List Assn} {w : World} (s : Sat L w) (c : List Value) (T : TypeId) : Sat (blk w.heap.size c T :: L) { w with heap := w.heap.push (.cells c.toArray T) } := by
  refine ⟨fun b => if b = w.heap.size + 1 then some (.obj (.cells c.toArray T)) else none, hpOf w, ?_, ?_, ⟨(0, 0), by simp, .inl (by simp)⟩, s⟩
  · intro b
    by_cases e : b = w.heap.size + 1
    · right; subst e; simp [hpOf]
    · left; simp [e]
  · funext b
    unfold Hp.join
    cases b with
    | zero => simp [hpOf]
    | succ b =>
      unfold hpOf
      by_cases e : b = w.heap.size
      · subst e; simp
      · have : ¬ (b + 1 = w.heap.size + 1) := by omega
        simp only [this, if_false, Option.none_or]
        rw [Array.getElem?_push]
        simp [e]

/-- Block 'b' of the first list holds other cells in the second. -/
inductive Upd : List Assn → Nat → List Value → TypeId → List Value → List Assn → Prop
  | here (b : Nat) (c c' : List Value) (T : TypeId) (L : List Assn) : Upd (blk b c T :: L) b c T c' (blk b c' T :: L)
  | there {A : Assn} {L M : List Assn} {b : Nat} {c c' : List Value} {T : TypeId} : Upd L b c T c' M → Upd (A :: L) b c T c' (A :: M)
theorem Upd.has {L M : List Assn} {b : Nat} {c c' : List Value} {T : TypeId} (u : Upd L b c T c' M) : blk b c T ∈ L := by
  induction u with
  | here => exact List.mem_cons_self
  | there _ ih => exact List.mem_cons_of_mem _ ih
theorem Upd.stars {L M : List Assn} {b : Nat} {c c' : List Value} {T : TypeId} (u : Upd L b c T c' M) (hl : c'.length = c.length) : ∀ {h k : Hp}, stars L h →
    (∀ x, x ≠ b + 1 → k x = h x) → (∀ fr, h (b + 1) = some (.obj (.cells c.toArray T fr)) → k (b + 1) = some (.obj (.cells c'.toArray T fr))) → stars M k := by
  induction u with
  | here b c c' T L =>
    rintro h k ⟨h1, h2, d, e, ⟨fr, hb, hf⟩, s⟩ hne heq
    have hb' : h (b + 1) = some (.obj (.cells c.toArray T fr)) := by rw [e]; simp [Hp.join, hb]
    have h2b : h2 (b + 1) = none := by
      rcases d (b + 1) with x | x
      · rw [x] at hb; cases hb
      · exact x
    refine ⟨fun x => if x = b + 1 then k (b + 1) else h1 x, h2, ?_, ?_, ⟨fr, by simp [heq fr hb'], by rw [hl]; exact hf⟩, s⟩
    · intro x
      by_cases ex : x = b + 1
      · subst ex; exact .inr h2b
      · simp only [ex, if_false]; exact d x
    · funext x
      by_cases ex : x = b + 1
      · subst ex; simp [Hp.join, heq fr hb']
      · rw [hne x ex, e]; simp [Hp.join, ex]
  | @there A L M b c c' T u ih =>
    rintro h k ⟨h1, h2, d, e, a, s⟩ hne heq
    obtain ⟨fr, hb, _⟩ := stars_mem (Upd.has u) (up_blk b c T) s
    have h1b : h1 (b + 1) = none := by
      rcases d (b + 1) with x | x
      · exact x
      · rw [x] at hb; cases hb
    have hb' : h (b + 1) = some (.obj (.cells c.toArray T fr)) := by rw [e]; simp [Hp.join, hb, h1b]
    refine ⟨h1, fun x => if x = b + 1 then k (b + 1) else h2 x, ?_, ?_, a, ih hl s ?_ ?_⟩
    · intro x
      by_cases ex : x = b + 1
      · subst ex; exact .inl h1b
      · simp only [ex, if_false]; exact d x
    · funext x
      by_cases ex : x = b + 1
      · subst ex; simp [Hp.join, h1b]
      · rw [hne x ex, e]; simp [Hp.join, ex]
    · intro x ex; simp [ex]
    · intro fr' hb2
      rw [hb] at hb2
      cases hb2
      simp [heq fr hb']

theorem Sat.set {L M : List Assn} {b : Nat} {c : List Value} {T : TypeId} {off : Nat} {v : Value} {w : World} (u : Upd L b c T (c.set off v) M) (s : Sat L w) :
    Sat M (w.setCell ⟨b, off, none⟩ v) := by
  refine u.stars (by simp) s ?_ ?_
  · intro x hx
    cases x with
    | zero => rfl
    | succ x =>
      have hx : x ≠ b := by omega
      unfold hpOf World.setCell
      simp only []
      rw [Array.getElem?_modify]
      simp [Ne.symm hx]
  · intro fr hb
    have hb := hpOf_obj.1 hb
    refine hpOf_obj.2 ?_
    unfold World.setCell
    simp only []
    rw [Array.getElem?_modify]
    simp [hb]
theorem Sat.notFrozen {L : List Assn} {b : Nat} {c : List Value} {T : TypeId} {w : World} (s : Sat L w) (m : GL.blk b c T ∈ L) {off : Nat} (h : off < c.length) : w.frozen? ⟨b, off, none⟩ = false := by
  obtain ⟨fr, hb, hf⟩ := stars_mem m (up_blk b c T) s
  have hb := hpOf_obj.1 hb
  unfold World.frozen?
  simp only [hb]
  obtain ⟨lo, hi⟩ := fr
  simp only [] at hf ⊢
  rcases hf with hf | hf
  · simp; omega
  · simp; omega
end Go.GL
