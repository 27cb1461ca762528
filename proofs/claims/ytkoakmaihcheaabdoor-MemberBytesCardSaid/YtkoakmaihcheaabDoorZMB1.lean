/- Contracts of functions of the given program, and plain laws: parts of the proofs of laws. -/
import Derived.WalkKit
import Derived.OrdersHeld
import Derived.Deep.LoopGhost
import Derived.ProofKit
import Derived.OpenShut
import Derived.ShutString
import Derived.ChangeOld
import Derived.Below
import Derived.Carry
import Derived.Deep.Slices
/- Heap assertions: lists of assertions on separate parts of memory; plain laws on them. No program in sight. -/
namespace Go.GL
open Go

/-- What lies at a place: a block of memory; at place 0 what the outside has, and what was printed. -/
inductive GObj
  | obj (o : Obj)
  | ghost (os : Os) (out : Array (Nat × ByteArray))
abbrev Hp := Nat → Option GObj
abbrev Assn := Hp → Prop

def Hp.le (h k : Hp) : Prop := ∀ b o, h b = some o → k b = some o
def Hp.disj (h k : Hp) : Prop := ∀ b, h b = none ∨ k b = none
def Hp.join (h k : Hp) : Hp := fun b => (h b).or (k b)
def Hp.minus (k h : Hp) : Hp := fun b => if (h b).isSome then none else k b
def Hp.empty : Hp := fun _ => none

theorem Hp.le_refl (h : Hp) : Hp.le h h := fun _ _ e => e
theorem Hp.le_trans {h k l : Hp} (a : Hp.le h k) (b : Hp.le k l) : Hp.le h l := fun x o e => b x o (a x o e)
theorem Hp.le_join_left (h k : Hp) : Hp.le h (Hp.join h k) := fun b o e => by simp [Hp.join, e]
theorem Hp.le_join_right {h k : Hp} (d : Hp.disj h k) : Hp.le k (Hp.join h k) := fun b o e => by
  rcases d b with d | d
  · simp [Hp.join, d, e]
  · rw [d] at e; cases e
theorem Hp.join_minus {h k : Hp} (l : Hp.le h k) : k = Hp.join h (Hp.minus k h) := by
  funext b
  unfold Hp.join Hp.minus
  cases e : h b with
  | none => simp
  | some o => simp [l b o e]
theorem Hp.disj_minus (h k : Hp) : Hp.disj h (Hp.minus k h) := fun b => by
  unfold Hp.minus
  cases e : h b with
  | none => exact .inl rfl
  | some o => exact .inr (by simp)
theorem Hp.disj_comm {h k : Hp} (d : Hp.disj h k) : Hp.disj k h := fun b => (d b).symm
theorem Hp.join_comm {h k : Hp} (d : Hp.disj h k) : Hp.join h k = Hp.join k h := by
  funext b
  unfold Hp.join
  rcases d b with e | e <;> simp [e]
theorem Hp.join_assoc (h k l : Hp) : Hp.join (Hp.join h k) l = Hp.join h (Hp.join k l) := by
  funext b
  unfold Hp.join
  cases h b <;> simp
theorem Hp.disj_join {h k l : Hp} (a : Hp.disj h l) (b : Hp.disj k l) : Hp.disj (Hp.join h k) l := fun x => by
  rcases a x with e | e
  · rcases b x with f | f
    · left; simp [Hp.join, e, f]
    · exact .inr f
  · exact .inr e
theorem Hp.disj_of_join_left {h k l : Hp} (a : Hp.disj (Hp.join h k) l) : Hp.disj h l := fun x => by
  rcases a x with e | e
  · left; unfold Hp.join at e; cases hh : h x <;> simp_all
  · exact .inr e
theorem Hp.disj_of_join_right {h k l : Hp} (a : Hp.disj (Hp.join h k) l) : Hp.disj k l := fun x => by
  rcases a x with e | e
  · left; unfold Hp.join at e; cases hh : h x <;> simp_all
  · exact .inr e
theorem Hp.disj_mono {h k h' k' : Hp} (d : Hp.disj h' k') (a : Hp.le h h') (b : Hp.le k k') : Hp.disj h k := fun x => by
  rcases d x with e | e
  · left
    cases hh : h x with
    | none => rfl
    | some o => rw [a x o hh] at e; cases e
  · right
    cases hh : k x with
    | none => rfl
    | some o => rw [b x o hh] at e; cases e

/-- The assertions hold of separate parts; the rest of the heap is nobody's. -/
def stars : List Assn → Assn
  | [], _ => True
  | A :: L, h => ∃ h1 h2, Hp.disj h1 h2 ∧ h = Hp.join h1 h2 ∧ A h1 ∧ stars L h2

def hpOf (w : World) : Hp
  | 0 => some (.ghost w.os w.output)
  | b + 1 => (w.heap[b]?).map .obj
theorem hpOf_obj {w : World} {b : Nat} {o : Obj} : hpOf w (b + 1) = some (.obj o) ↔ w.heap[b]? = some o := by
  simp only [hpOf, Option.map_eq_some_iff, GObj.obj.injEq, exists_eq_right]
theorem hpOf_none {w : World} {b : Nat} : hpOf w (b + 1) = none ↔ w.heap[b]? = none := by simp [hpOf]
theorem hpOf_ghost (w : World) : hpOf w 0 = some (.ghost w.os w.output) := rfl
def Sat (L : List Assn) (w : World) : Prop := stars L (hpOf w)
def Up (R : Assn) : Prop := ∀ h k, Hp.le h k → R h → R k

theorem stars_mono : ∀ {L : List Assn} {h k : Hp}, Hp.le h k → stars L h → stars L k
  | [], _, _, _, _ => trivial
  | A :: L, h, k, l, ⟨h1, h2, d, e, a, s⟩ => by
    have l1 : Hp.le h1 k := Hp.le_trans (by rw [e]; exact Hp.le_join_left _ _) l
    have l2 : Hp.le h2 k := Hp.le_trans (by rw [e]; exact Hp.le_join_right d) l
    refine ⟨h1, Hp.minus k h1, Hp.disj_minus _ _, Hp.join_minus l1, a, stars_mono ?_ s⟩
    intro b o hb
    unfold Hp.minus
    rcases d b with e1 | e1
    · simp [e1, l2 b o hb]
    · rw [e1] at hb; cases hb
theorem up_stars (L : List Assn) : Up (stars L) := fun _ _ l s => stars_mono l s

theorem stars_swap {A B : Assn} {L : List Assn} {h : Hp} (s : stars (A :: B :: L) h) : stars (B :: A :: L) h := by
  obtain ⟨h1, h2, d, e, a, h3, h4, d', e', b, s⟩ := s
  subst e'
  have d13 : Hp.disj h1 h3 := Hp.disj_mono d (Hp.le_refl _) (Hp.le_join_left _ _)
  have d14 : Hp.disj h1 h4 := Hp.disj_mono d (Hp.le_refl _) (Hp.le_join_right d')
  refine ⟨h3, Hp.join h1 h4, ?_, ?_, b, h1, h4, d14, rfl, a, s⟩
  · exact Hp.disj_comm (Hp.disj_join d13 (Hp.disj_comm d'))
  · rw [e, ← Hp.join_assoc, ← Hp.join_assoc, Hp.join_comm d13]
theorem stars_cons_mono {A : Assn} {L M : List Assn} (f : ∀ h, stars L h → stars M h) {h : Hp} (s : stars (A :: L) h) : stars (A :: M) h :=
  let ⟨h1, h2, d, e, a, s⟩ := s
  ⟨h1, h2, d, e, a, f _ s⟩
theorem stars_head_mono {A B : Assn} {L : List Assn} (f : ∀ h, A h → B h) {h : Hp} (s : stars (A :: L) h) : stars (B :: L) h :=
  let ⟨h1, h2, d, e, a, s⟩ := s
  ⟨h1, h2, d, e, f _ a, s⟩
theorem stars_drop {A : Assn} {L : List Assn} {h : Hp} (s : stars (A :: L) h) : stars L h :=
  let ⟨_, _, d, e, _, s⟩ := s
  stars_mono (by rw [e]; exact Hp.le_join_right d) s
theorem stars_head {A : Assn} {L : List Assn} {h : Hp} (s : stars (A :: L) h) (u : Up A) : A h :=
  let ⟨_, _, _, e, a, _⟩ := s
  u _ _ (by rw [e]; exact Hp.le_join_left _ _) a
theorem stars_perm {L M : List Assn} (p : L.Perm M) : ∀ {h : Hp}, stars L h → stars M h := by
  induction p with
  | nil => exact fun s => s
  | cons x _ ih => exact fun s => stars_cons_mono (fun _ => ih) s
  | swap x y l => exact fun s => stars_swap s
  | trans _ _ a b => exact fun s => b (a s)
theorem stars_mem {A : Assn} {L : List Assn} (m : A ∈ L) (u : Up A) {h : Hp} (s : stars L h) : A h := by
  induction L generalizing h with
  | nil => cases m
  | cons B L ih =>
    rcases List.mem_cons.1 m with rfl | m
    · exact stars_head s u
    · exact ih m (stars_drop s)
theorem stars_append {M L : List Assn} {h : Hp} : stars (M ++ L) h ↔ stars (stars M :: L) h := by
  induction M generalizing h with
  | nil =>
    constructor
    · exact fun s => ⟨Hp.empty, h, fun _ => .inl rfl, by funext b; simp [Hp.join, Hp.empty], trivial, s⟩
    · exact fun s => stars_drop s
  | cons A M ih =>
    constructor
    · rintro ⟨h1, h2, d, e, a, s⟩
      obtain ⟨h3, h4, d', e', m, l⟩ := ih.1 s
      subst e'
      have d13 : Hp.disj h1 h3 := Hp.disj_mono d (Hp.le_refl _) (Hp.le_join_left _ _)
      have d14 : Hp.disj h1 h4 := Hp.disj_mono d (Hp.le_refl _) (Hp.le_join_right d')
      exact ⟨Hp.join h1 h3, h4, Hp.disj_join d14 d', by rw [e, Hp.join_assoc], ⟨h1, h3, d13, rfl, a, m⟩, l⟩
    · rintro ⟨h1, h2, d, e, ⟨h3, h4, d', e', a, m⟩, l⟩
      subst e'
      have d32 : Hp.disj h3 h2 := Hp.disj_of_join_left d
      have d42 : Hp.disj h4 h2 := Hp.disj_of_join_right d
      exact ⟨h3, Hp.join h4 h2, Hp.disj_comm (Hp.disj_join (Hp.disj_comm d') (Hp.disj_comm d32)), by rw [e, Hp.join_assoc], a, ih.2 ⟨h4, h2, d42, rfl, m, l⟩⟩
theorem stars_ex {α : Type} {A : α → Assn} {L : List Assn} {h : Hp} (s : stars ((fun k => ∃ x, A x k) :: L) h) : ∃ x, stars (A x :: L) h :=
  let ⟨h1, h2, d, e, ⟨x, a⟩, s⟩ := s
  ⟨x, h1, h2, d, e, a, s⟩

/-- The one block 'b': these cells of this type; none of them is frozen. -/
def blk (b : Nat) (c : List Value) (T : TypeId) : Assn := fun h => ∃ fr : Nat × Nat, h (b + 1) = some (.obj (.cells c.toArray T fr)) ∧ (fr.2 ≤ fr.1 ∨ c.length ≤ fr.1)
theorem up_blk (b : Nat) (c : List Value) (T : TypeId) : Up (blk b c T) := fun _ _ l ⟨fr, e, f⟩ => ⟨fr, l _ _ e, f⟩
/-- There is a cell at a place, and it holds a value. -/
def cellAt (b off : Nat) (v : Value) : Assn := fun h => ∃ (c : Array Value) (T : TypeId) (fr : Nat × Nat), h (b + 1) = some (.obj (.cells c T fr)) ∧ c[off]? = some v
theorem up_cellAt (b off : Nat) (v : Value) : Up (cellAt b off v) := fun _ _ l ⟨c, T, fr, e, f⟩ => ⟨c, T, fr, l _ _ e, f⟩

/-- What holds of whatever heap meets the assertions. -/
def Ent (L : List Assn) (R : Assn) : Prop := ∀ h, stars L h → R h
theorem Ent.mem {A : Assn} {L : List Assn} {R : Assn} (m : A ∈ L) (u : Up A) (f : ∀ h, A h → R h) : Ent L R := fun _ s => f _ (stars_mem m u s)
theorem Ent.tail {A : Assn} {L : List Assn} {R : Assn} (e : Ent L R) : Ent (A :: L) R := fun _ s => e _ (stars_drop s)
theorem Ent.blk {b : Nat} {c : List Value} {T : TypeId} {L : List Assn} {off : Nat} {v : Value} (m : blk b c T ∈ L) (e : c[off]? = some v) : Ent L (cellAt b off v) :=
  Ent.mem m (up_blk b c T) fun h ⟨fr, hb, _⟩ => ⟨_, T, fr, hb, by simpa using e⟩
theorem Ent.and {L : List Assn} {R S : Assn} (a : Ent L R) (b : Ent L S) : Ent L (fun h => R h ∧ S h) := fun h s => ⟨a h s, b h s⟩

theorem cell_of_cellAt {w : World} {b off : Nat} {v : Value} (h : cellAt b off v (hpOf w)) : w.cell? ⟨b, off, none⟩ = some v := by
  obtain ⟨c, T, fr, e, f⟩ := h
  have e := hpOf_obj.1 e
  unfold World.cell?
  simp only [e]
  simpa using f

/-- From one list of assertions to another. -/
def Imp (L M : List Assn) : Prop := ∀ h, stars L h → stars M h
theorem Imp.refl (L : List Assn) : Imp L L := fun _ s => s
theorem Imp.trans {L M N : List Assn} (a : Imp L M) (b : Imp M N) : Imp L N := fun h s => b h (a h s)
theorem Imp.perm {L M : List Assn} (p : L.Perm M) : Imp L M := fun _ s => stars_perm p s
theorem Imp.sat {L M : List Assn} (i : Imp L M) {w : World} (s : Sat L w) : Sat M w := i _ s
theorem Imp.cons {A : Assn} {L M : List Assn} (i : Imp L M) : Imp (A :: L) (A :: M) := fun _ s => stars_cons_mono i s
theorem Imp.drop {A : Assn} {L : List Assn} : Imp (A :: L) L := fun _ s => stars_drop s
theorem Imp.dropTail {A : Assn} {L M : List Assn} (i : Imp L M) : Imp (A :: L) M := fun _ s => i _ (stars_drop s)

theorem stars_append_left {M L : List Assn} {h : Hp} (s : stars (M ++ L) h) : stars M h :=
  let ⟨_, _, _, e, a, _⟩ := stars_append.1 s
  stars_mono (by rw [e]; exact Hp.le_join_left _ _) a
theorem stars_one {F : List Assn} {h : Hp} : stars F h ↔ stars [stars F] h := by
  constructor
  · exact fun s => ⟨h, Hp.empty, fun _ => .inr rfl, by funext b; simp [Hp.join, Hp.empty], s, trivial⟩
  · rintro ⟨h1, h2, _, e, s, _⟩
    exact stars_mono (by rw [e]; exact Hp.le_join_left _ _) s
theorem stars_app_one {M F : List Assn} {h : Hp} : stars (M ++ F) h ↔ stars (M ++ [stars F]) h := by
  rw [stars_append, stars_append]
  exact ⟨stars_cons_mono (fun _ s => stars_one.1 s), stars_cons_mono (fun _ s => stars_one.2 s)⟩
theorem Imp.app {L M : List Assn} (i : Imp L M) (F : List Assn) : Imp (L ++ F) (M ++ F) := fun _ s => stars_append.2 (stars_head_mono i (stars_append.1 s))
/-- One assertion taken out of a list. -/
inductive Pick : List Assn → Assn → List Assn → Prop
  | here (A : Assn) (L : List Assn) : Pick (A :: L) A L
  | there {A B : Assn} {L M : List Assn} : Pick L A M → Pick (B :: L) A (B :: M)
theorem Pick.perm {L M : List Assn} {A : Assn} (p : Pick L A M) : L.Perm (A :: M) := by
  induction p with
  | here => exact .refl _
  | there _ ih => exact (ih.cons _).trans (.swap _ _ _)
theorem Pick.imp {L M : List Assn} {A : Assn} (p : Pick L A M) : Imp L (A :: M) := .perm p.perm
theorem Pick.back {L M : List Assn} {A : Assn} (p : Pick L A M) : Imp (A :: M) L := .perm p.perm.symm
/-- Those of the second list, in its order, are taken out of the first; the third is what is left. -/
inductive Picks : List Assn → List Assn → List Assn → Prop
  | nil (L : List Assn) : Picks L [] L
  | cons {L M N A Rs} : Pick L A M → Picks M Rs N → Picks L (A :: Rs) N
theorem Picks.imp {L Rs N : List Assn} (p : Picks L Rs N) : Imp L (Rs ++ N) := by
  induction p with
  | nil => exact Imp.refl _
  | cons p _ ih => exact p.imp.trans ih.cons

theorem Imp.sub {L Rs N : List Assn} (p : Picks L Rs N) : Imp L Rs := fun _ s => stars_append_left (p.imp _ s)
/-- The heap may have grown, and nothing that was there has changed. -/
def Ext (w w' : World) : Prop := Hp.le (hpOf w) (hpOf w')
theorem Ext.refl (w : World) : Ext w w := Hp.le_refl _
theorem Ext.trans {a b c : World} (x : Ext a b) (y : Ext b c) : Ext a c := Hp.le_trans x y
theorem Sat.ext {L : List Assn} {w w' : World} (s : Sat L w) (x : Ext w w') : Sat L w' := stars_mono x s
theorem hpOf_heap {w w' : World} (h : w'.heap = w.heap) (h1 : w'.os = w.os) (h2 : w'.output = w.output) : hpOf w' = hpOf w := by
  funext k
  cases k with
  | zero => simp only [hpOf, h1, h2]
  | succ k => simp only [hpOf, h]
theorem Ext.of_heap {w w' : World} (h : w'.heap = w.heap) (h1 : w'.os = w.os) (h2 : w'.output = w.output) : Ext w w' := fun b o e => by rw [hpOf_heap h h1 h2]; exact e
theorem Ext.os {w w' : World} (h : Ext w w') : w'.os = w.os ∧ w'.output = w.output := by
  have := h 0 _ (hpOf_ghost w)
  rw [hpOf_ghost] at this
  simp only [Option.some.injEq, GObj.ghost.injEq] at this
  exact this
theorem Ext.block {w w' : World} (h : Ext w w') {b : Nat} (hb : b < w.heap.size) : w'.heap[b]? = w.heap[b]? := by
  rw [Array.getElem?_eq_getElem hb]
  exact hpOf_obj.1 (h (b + 1) _ (hpOf_obj.2 (Array.getElem?_eq_getElem hb)))
theorem Ext.size {w w' : World} (h : Ext w w') : w.heap.size ≤ w'.heap.size := by
  by_cases e : w.heap.size = 0
  · omega
  · have hlt : w.heap.size - 1 < w.heap.size := by omega
    have h2 := h.block hlt
    rw [Array.getElem?_eq_getElem hlt] at h2
    have := (Array.getElem?_eq_some_iff.1 h2).1
    omega
/-- All that was there when the call began, as it was. -/
def old (w : World) : Assn := fun h => Hp.le (hpOf w) h
theorem up_old (w : World) : Up (old w) := fun _ _ l a => Hp.le_trans a l
theorem Sat.old (w : World) : Sat [old w] w :=
  ⟨hpOf w, Hp.empty, fun _ => .inr rfl, by funext b; simp [Hp.join, Hp.empty], Hp.le_refl _, trivial⟩
theorem ext_of_old {w w' : World} {L : List Assn} (m : GL.old w ∈ L) (s : Sat L w') : Ext w w' := stars_mem m (up_old w) s
theorem Ent.old {w : World} {L : List Assn} {R : Assn} (m : GL.old w ∈ L) (u : Up R) (r : R (hpOf w)) : Ent L R :=
  Ent.mem m (up_old w) fun _ a => u _ _ a r

/-- A new block. -/
theorem Sat.new {L : List Assn} {w : World} (s : Sat L w) (c : List Value) (T : TypeId) : Sat (blk w.heap.size c T :: L) { w with heap := w.heap.push (.cells c.toArray T) } := by
  refine ⟨fun b => if b = w.heap.size + 1 then some (.obj (.cells c.toArray T)) else none, hpOf w, ?_, ?_, ⟨(0, 0), by simp, .inl (by simp)⟩, s⟩
  · intro b
    by_cases e : b = w.heap.size + 1
    · right; subst e; simp [hpOf]
    · left; simp [e]
  · funext b
    unfold Hp.join
    cases b with
    | zero => simp [hpOf]
    | succ b =>
      unfold hpOf
      by_cases e : b = w.heap.size
      · subst e; simp
      · have : ¬ (b + 1 = w.heap.size + 1) := by omega
        simp only [this, if_false, Option.none_or]
        rw [Array.getElem?_push]
        simp [e]

/-- Block 'b' of the first list holds other cells in the second. -/
inductive Upd : List Assn → Nat → List Value → TypeId → List Value → List Assn → Prop
  | here (b : Nat) (c c' : List Value) (T : TypeId) (L : List Assn) : Upd (blk b c T :: L) b c T c' (blk b c' T :: L)
  | there {A : Assn} {L M : List Assn} {b : Nat} {c c' : List Value} {T : TypeId} : Upd L b c T c' M → Upd (A :: L) b c T c' (A :: M)
theorem Upd.has {L M : List Assn} {b : Nat} {c c' : List Value} {T : TypeId} (u : Upd L b c T c' M) : blk b c T ∈ L := by
  induction u with
  | here => exact List.mem_cons_self
  | there _ ih => exact List.mem_cons_of_mem _ ih
theorem Upd.stars {L M : List Assn} {b : Nat} {c c' : List Value} {T : TypeId} (u : Upd L b c T c' M) (hl : c'.length = c.length) : ∀ {h k : Hp}, stars L h →
    (∀ x, x ≠ b + 1 → k x = h x) → (∀ fr, h (b + 1) = some (.obj (.cells c.toArray T fr)) → k (b + 1) = some (.obj (.cells c'.toArray T fr))) → stars M k := by
  induction u with
  | here b c c' T L =>
    rintro h k ⟨h1, h2, d, e, ⟨fr, hb, hf⟩, s⟩ hne heq
    have hb' : h (b + 1) = some (.obj (.cells c.toArray T fr)) := by rw [e]; simp [Hp.join, hb]
    have h2b : h2 (b + 1) = none := by
      rcases d (b + 1) with x | x
      · rw [x] at hb; cases hb
      · exact x
    refine ⟨fun x => if x = b + 1 then k (b + 1) else h1 x, h2, ?_, ?_, ⟨fr, by simp [heq fr hb'], by rw [hl]; exact hf⟩, s⟩
    · intro x
      by_cases ex : x = b + 1
      · subst ex; exact .inr h2b
      · simp only [ex, if_false]; exact d x
    · funext x
      by_cases ex : x = b + 1
      · subst ex; simp [Hp.join, heq fr hb']
      · rw [hne x ex, e]; simp [Hp.join, ex]
  | @there A L M b c c' T u ih =>
    rintro h k ⟨h1, h2, d, e, a, s⟩ hne heq
    obtain ⟨fr, hb, _⟩ := stars_mem (Upd.has u) (up_blk b c T) s
    have h1b : h1 (b + 1) = none := by
      rcases d (b + 1) with x | x
      · exact x
      · rw [x] at hb; cases hb
    have hb' : h (b + 1) = some (.obj (.cells c.toArray T fr)) := by rw [e]; simp [Hp.join, hb, h1b]
    refine ⟨h1, fun x => if x = b + 1 then k (b + 1) else h2 x, ?_, ?_, a, ih hl s ?_ ?_⟩
    · intro x
      by_cases ex : x = b + 1
      · subst ex; exact .inl h1b
      · simp only [ex, if_false]; exact d x
    · funext x
      by_cases ex : x = b + 1
      · subst ex; simp [Hp.join, h1b]
      · rw [hne x ex, e]; simp [Hp.join, ex]
    · intro x ex; simp [ex]
    · intro fr' hb2
      rw [hb] at hb2
      cases hb2
      simp [heq fr hb']

theorem Sat.set {L M : List Assn} {b : Nat} {c : List Value} {T : TypeId} {off : Nat} {v : Value} {w : World} (u : Upd L b c T (c.set off v) M) (s : Sat L w) :
    Sat M (w.setCell ⟨b, off, none⟩ v) := by
  refine u.stars (by simp) s ?_ ?_
  · intro x hx
    cases x with
    | zero => rfl
    | succ x =>
      have hx : x ≠ b := by omega
      unfold hpOf World.setCell
      simp only []
      rw [Array.getElem?_modify]
      simp [Ne.symm hx]
  · intro fr hb
    have hb := hpOf_obj.1 hb
    refine hpOf_obj.2 ?_
    unfold World.setCell
    simp only []
    rw [Array.getElem?_modify]
    simp [hb]
theorem Sat.notFrozen {L : List Assn} {b : Nat} {c : List Value} {T : TypeId} {w : World} (s : Sat L w) (m : GL.blk b c T ∈ L) {off : Nat} (h : off < c.length) : w.frozen? ⟨b, off, none⟩ = false := by
  obtain ⟨fr, hb, hf⟩ := stars_mem m (up_blk b c T) s
  have hb := hpOf_obj.1 hb
  unfold World.frozen?
  simp only [hb]
  obtain ⟨lo, hi⟩ := fr
  simp only [] at hf ⊢
  rcases hf with hf | hf
  · simp; omega
  · simp; omega
end Go.GL
/- The symbolic state of a walk: what some temporaries hold, and one operation's value out of it. -/
namespace Go.GL
open Go

/-- What is known of a type. -/
structure TI where
  desc : TypeDesc
  size : Nat
  bytes : Nat
  zero : List Value
  agg : Bool
  cmp : Bool
inductive Tab where
  | leaf
  | node (k : Nat) (v : TI) (l r : Tab)
def Tab.find : Tab → Nat → Option TI
  | .leaf, _ => none
  | .node k v l r, t => match Nat.beq t k with
    | true => some v
    | false => match Nat.ble t k with
      | true => l.find t
      | false => r.find t
def zeroOf (t : TI) : Value := match t.agg with
  | true => .agg t.zero.toArray
  | false => match t.zero with
    | v :: _ => v
    | [] => undef
def isAggD : TypeDesc → Bool
  | .struct _ => true
  | .array _ _ => true
  | _ => false
structure TIOk (P : Program) (t : Nat) (i : TI) : Prop where
  desc : P.underlying t = some i.desc
  info : (P.info? t).map (fun x => (x.size, x.bytes, x.zero, x.comparable)) = some (i.size, i.bytes, some (zeroOf i), i.cmp)
  agg : isAggD i.desc = i.agg
  zero : i.zero.length = i.size
  zcells : (zeroOf i).cells = i.zero.toArray
def Tab.ok (P : Program) : Tab → Prop
  | .leaf => True
  | .node k v l r => TIOk P k v ∧ l.ok P ∧ r.ok P
theorem Tab.find_ok {P : Program} : ∀ {T : Tab}, T.ok P → ∀ {t i}, T.find t = some i → TIOk P t i
  | .leaf, _, _, _, h => by cases h
  | .node k v l r, ⟨a, b, c⟩, t, i, h => by
    unfold Tab.find at h
    split at h
    · rename_i e; cases h; rw [Nat.eq_of_beq_eq_true e]; exact a
    · split at h
      · exact Tab.find_ok b h
      · exact Tab.find_ok c h

structure Ctx where
  P : Program
  T : Tab
  ok : T.ok P
  mixed : P.follows .mixedOrders = true

theorem run_under {P : Program} {t : Nat} {i : TI} (h : TIOk P t i) (w : World) : (underlying t).run P w = .ok i.desc w := run_underlying h.desc w
theorem run_info {P : Program} {t : Nat} {i : TI} (h : TIOk P t i) (w : World) : ∃ x : TypeInfo, P.info? t = some x ∧ (typeInfo t).run P w = .ok x w ∧ x.size = i.size ∧ x.bytes = i.bytes ∧ x.zero = some (zeroOf i) ∧ x.comparable = i.cmp := by
  have e := h.info
  cases hx : P.info? t with
  | none => rw [hx] at e; cases e
  | some x =>
    rw [hx] at e
    simp only [Option.map_some, Option.some.injEq, Prod.mk.injEq] at e
    exact ⟨x, rfl, by simp [typeInfo, hx], e.1, e.2.1, e.2.2.1, e.2.2.2⟩
theorem run_size {P : Program} {t : Nat} {i : TI} (h : TIOk P t i) (w : World) : (sizeOf t).run P w = .ok i.size w := by
  obtain ⟨x, _, r, e, _⟩ := run_info h w
  simp [Go.sizeOf, r, e]
theorem run_zero {P : Program} {t : Nat} {i : TI} (h : TIOk P t i) (w : World) : (zeroValue t).run P w = .ok (zeroOf i) w := by
  obtain ⟨x, _, r, _, _, e, _⟩ := run_info h w
  simp [zeroValue, r, e]
theorem run_isAgg {P : Program} {t : Nat} {i : TI} (h : TIOk P t i) (w : World) : (isAgg t).run P w = .ok i.agg w := by
  simp only [isAgg, Sem.run_bind, run_under h, Result.andThen_ok]
  rw [← h.agg]
  cases i.desc <;> rfl

/-- What a temporary is known to hold: a value; or a value if a condition holds. -/
inductive Slot where
  | val (v : Value)
  | grd (p : Bool) (v : Value)
abbrev Env := List (Nat × Slot)
def Env.get : Env → Nat → Option Slot
  | [], _ => none
  | (j, s) :: e, i => match Nat.beq i j with
    | true => some s
    | false => Env.get e i
def Slot.fits : Slot → Option Value → Prop
  | .val v, x => x = some v
  | .grd p v, x => x = some (bif p then v else undef)
structure Agree (N : Nat) (env : Env) (a : Act) : Prop where
  defers : a.defers = []
  size : a.tmps.size = N
  at_ : ∀ i s, Env.get env i = some s → s.fits a.tmps[i]?

theorem Agree.put {N : Nat} {env : Env} {a : Act} (h : Agree N env a) {d : Nat} (hd : Nat.blt d N = true) (v : Value) : Agree N ((d, .val v) :: env) (a.put (some d) v) := by
  have hd' : d < N := by simpa [Nat.blt_eq] using hd
  refine ⟨h.defers, by simp [Act.put, h.size], fun i s hs => ?_⟩
  unfold Env.get at hs
  split at hs
  · rename_i e
    have e := Nat.eq_of_beq_eq_true e
    cases hs; subst e
    simp [Slot.fits, Act.put, h.size, hd']
  · rename_i e
    have e := Nat.ne_of_beq_eq_false e
    have := h.at_ i s hs
    simpa [Act.put, Array.getElem?_setIfInBounds, Ne.symm e] using this
theorem Agree.none {N : Nat} {env : Env} {a : Act} (h : Agree N env a) (v : Value) : Agree N env (a.put none v) := h
theorem Agree.grd {N : Nat} {env : Env} {a : Act} (h : Agree N env a) {d : Nat} (hd : Nat.blt d N = true) {q : Bool} {u v : Value} (hq : u = bif q then v else undef) :
    Agree N ((d, .grd q v) :: env) (a.put (some d) u) := by
  have hd' : d < N := by simpa [Nat.blt_eq] using hd
  refine ⟨h.defers, by simp [Act.put, h.size], fun i s hs => ?_⟩
  unfold Env.get at hs
  split at hs
  · rename_i e
    have e := Nat.eq_of_beq_eq_true e
    cases hs; subst e
    simp [Slot.fits, Act.put, h.size, hd', hq]
  · rename_i e
    have e := Nat.ne_of_beq_eq_false e
    have := h.at_ i s hs
    simpa [Act.put, Array.getElem?_setIfInBounds, Ne.symm e] using this
/-- What the second list says, the first says. -/
def SubEnv : Env → Env → Prop
  | [], _ => True
  | (i, s) :: r, e => Env.get e i = some s ∧ SubEnv r e
theorem Agree.sub {N : Nat} {e e' : Env} {a : Act} (h : Agree N e a) (s : SubEnv e' e) : Agree N e' a := by
  refine ⟨h.defers, h.size, fun i x hx => ?_⟩
  induction e' with
  | nil => cases hx
  | cons y r ih =>
    obtain ⟨j, t⟩ := y
    obtain ⟨s1, s2⟩ := s
    unfold Env.get at hx
    split at hx
    · rename_i e
      have e := Nat.eq_of_beq_eq_true e
      cases hx; subst e
      exact h.at_ _ _ s1
    · exact ih s2 hx

def Holds : Option Prop → Prop
  | none => True
  | some p => p
def andC : Option Prop → Option Prop → Option Prop
  | none, c => c
  | some p, none => some p
  | some p, some q => some (p ∧ q)
theorem holds_andC {a b : Option Prop} (h : Holds (andC a b)) : Holds a ∧ Holds b := by
  cases a <;> cases b <;> simp_all [andC, Holds]

/-- a value under a condition, the condition laid open -/
def fin (c : Option Prop) (v : Value) : Option (Option Prop × Value) := match c with
  | none => some (none, v)
  | some p => some (some p, v)
theorem fin_eq {c c' : Option Prop} {v v' : Value} (h : fin c v = some (c', v')) : c' = c ∧ v' = v := by
  cases c <;> simp only [fin, Option.some.injEq, Prod.mk.injEq] at h <;> exact ⟨h.1.symm, h.2.symm⟩
/-- Under which condition an operation is carried out: always, or if a test came out true. -/
abbrev Gd := Option Bool
def Gd.on : Gd → Prop
  | none => True
  | some g => g = true
def cnd : Gd → Prop → Option Prop
  | none, p => some p
  | some g, p => some (g = true → p)
theorem cnd_ok {q : Gd} {p : Prop} (h : Holds (cnd q p)) (hq : q.on) : p := by
  cases q with
  | none => exact h
  | some g => exact h hq
/-- An operand, where condition 'q' holds. -/
def rd (q : Gd) (env : Env) : Operand → Option (Option Prop × Value)
  | .tmp t => match Env.get env t with
    | some (.val v) => some (none, v)
    | some (.grd p v) => fin (cnd q (p = true)) v
    | none => none
  | .const v => some (none, v)
  | .global g => some (none, .pointer (some ⟨g, 0, none⟩))
  | .func f => some (none, .func (.func f) #[] #[])
theorem rd_ok {N : Nat} {env : Env} {a : Act} (h : Agree N env a) {q : Gd} {x : Operand} {c : Option Prop} {v : Value} (e : rd q env x = some (c, v)) (hc : Holds c) (hq : q.on) : a.eval x = v := by
  cases x with
  | tmp t =>
    simp only [rd] at e
    cases hu : Env.get env t with
    | none => rw [hu] at e; cases e
    | some s =>
      rw [hu] at e
      cases s with
      | val u =>
        cases e
        have := h.at_ _ _ hu
        simp only [Slot.fits] at this
        simp [Act.eval, Array.getD_eq_getD_getElem?, this]
      | grd p u =>
        obtain ⟨rfl, rfl⟩ := fin_eq e
        have := h.at_ _ _ hu
        simp only [Slot.fits, cnd_ok hc hq, cond_true] at this
        simp [Act.eval, Array.getD_eq_getD_getElem?, this]
  | const v => simp only [rd, Option.some.injEq, Prod.mk.injEq] at e; exact e.2
  | global g => simp only [rd, Option.some.injEq, Prod.mk.injEq] at e; exact e.2
  | func f => simp only [rd, Option.some.injEq, Prod.mk.injEq] at e; exact e.2
end Go.GL
/- One operation's value. -/
namespace Go.GL
open Go

def intMin : IntKind → Int
  | .i8 => -128 | .i16 => -32768 | .i32 => -2147483648 | .i64 => -9223372036854775808 | _ => 0
def intMax : IntKind → Int
  | .i8 => 127 | .i16 => 32767 | .i32 => 2147483647 | .i64 => 9223372036854775807 | .u8 => 255 | .u16 => 65535 | .u32 => 4294967295 | .u64 => 18446744073709551615
/-- a number that fits its kind -/
def Fit (k : IntKind) (n : Int) : Prop := match k with
  | .i8 => -128 ≤ n ∧ n ≤ 127
  | .i16 => -32768 ≤ n ∧ n ≤ 32767
  | .i32 => -2147483648 ≤ n ∧ n ≤ 2147483647
  | .i64 => -9223372036854775808 ≤ n ∧ n ≤ 9223372036854775807
  | .u8 => 0 ≤ n ∧ n ≤ 255
  | .u16 => 0 ≤ n ∧ n ≤ 65535
  | .u32 => 0 ≤ n ∧ n ≤ 4294967295
  | .u64 => 0 ≤ n ∧ n ≤ 18446744073709551615
theorem wrap_fit {k : IntKind} {n : Int} (h : Fit k n) : k.wrap n = n := by
  unfold Fit at h
  cases k <;> simp only [] at h <;> simp only [IntKind.wrap, IntKind.bits, IntKind.signed] <;> (first | (simp; omega) | (simp; split <;> omega))

def fitC : IntKind → Int → Option Prop
  | .i8, n => some (-128 ≤ n ∧ n ≤ 127)
  | .i16, n => some (-32768 ≤ n ∧ n ≤ 32767)
  | .i32, n => some (-2147483648 ≤ n ∧ n ≤ 2147483647)
  | .i64, n => some (-9223372036854775808 ≤ n ∧ n ≤ 9223372036854775807)
  | .u8, n => some (0 ≤ n ∧ n ≤ 255)
  | .u16, n => some (0 ≤ n ∧ n ≤ 65535)
  | .u32, n => some (0 ≤ n ∧ n ≤ 4294967295)
  | .u64, n => some (0 ≤ n ∧ n ≤ 18446744073709551615)
theorem fitC_ok {k : IntKind} {n : Int} (h : Holds (fitC k n)) : Fit k n := by cases k <;> exact h
def bitsV (op : BinOp) (k : IntKind) (x y : Int) : Int :=
  let a := BitVec.ofInt k.bits x
  let b := BitVec.ofInt k.bits y
  match op with
  | .and => k.wrap (a &&& b).toNat
  | .or => k.wrap (a ||| b).toNat
  | .xor => k.wrap (a ^^^ b).toNat
  | _ => k.wrap (a &&& ~~~b).toNat
def shlV (k : IntKind) (x y : Int) : Int := k.wrap (x * 2 ^ (min y.toNat k.bits))
def shrV (k : IntKind) (x y : Int) : Int := x.fdiv (2 ^ (min y.toNat k.bits))

/-- Two whole numbers. 'nw': nothing is to be wrapped, and that is to be shown. -/
def evInt (nw : Bool) (op : BinOp) (k : IntKind) (a b : Int) : Option (Option Prop × Value) :=
  match op with
  | .add => match nw with
    | true => fin (fitC k (a + b)) (.int k (a + b))
    | false => some (none, .int k (k.wrap (a + b)))
  | .sub => match nw with
    | true => fin (fitC k (a - b)) (.int k (a - b))
    | false => some (none, .int k (k.wrap (a - b)))
  | .mul => match nw with
    | true => fin (fitC k (a * b)) (.int k (a * b))
    | false => some (none, .int k (k.wrap (a * b)))
  | .quo => match nw with
    | true => fin (andC (some (0 ≤ a ∧ 0 < b)) (fitC k (a / b))) (.int k (a / b))
    | false => some (some (b ≠ 0), .int k (k.wrap (a.tdiv b)))
  | .rem => match nw with
    | true => some (some (0 ≤ a ∧ 0 < b), .int k (a % b))
    | false => some (some (b ≠ 0), .int k (a.tmod b))
  | .and => some (none, .int k (bitsV .and k a b))
  | .or => some (none, .int k (bitsV .or k a b))
  | .xor => some (none, .int k (bitsV .xor k a b))
  | .andNot => some (none, .int k (bitsV .andNot k a b))
  | .eql => some (none, .bool (decide (a = b)))
  | .neq => some (none, .bool (!decide (a = b)))
  | .lss => some (none, .bool (decide (a < b)))
  | .leq => some (none, .bool (decide (a ≤ b)))
  | .gtr => some (none, .bool (decide (b < a)))
  | .geq => some (none, .bool (decide (b ≤ a)))
  | _ => none
theorem evInt_ok {P : Program} {nw : Bool} {op : BinOp} {k : IntKind} {a b : Int} {c : Option Prop} {v : Value} (h : evInt nw op k a b = some (c, v)) (hc : Holds c) (t : TypeId) (w : World) :
    (binOp op t (.int k a) (.int k b)).run P w = .ok v w := by
  cases op <;> simp only [evInt] at h <;>
    first
    | (cases h; done)
    | (cases nw <;> simp only [] at h <;>
        first
        | (obtain ⟨rfl, rfl⟩ := fin_eq h
           simp only [binOp, Op.intArith, ne_eq, not_true_eq_false, if_false, Sem.run_pure, wrap_fit (fitC_ok hc)]; done)
        | (obtain ⟨rfl, rfl⟩ := fin_eq h
           obtain ⟨⟨h1, h2⟩, h3⟩ := holds_andC hc
           have hb : ¬ b = 0 := by omega
           simp only [binOp, Op.intDiv, ne_eq, not_true_eq_false, if_false, hb, Sem.run_pure, Int.tdiv_eq_ediv_of_nonneg h1, wrap_fit (fitC_ok h3)]; done)
        | (simp only [Option.some.injEq, Prod.mk.injEq] at h
           obtain ⟨rfl, rfl⟩ := h
           simp only [Holds] at hc
           first
           | (simp only [binOp, Op.intArith, ne_eq, not_true_eq_false, if_false, Sem.run_pure]; done)
           | (have hb : ¬ b = 0 := hc
              simp only [binOp, Op.intDiv, ne_eq, not_true_eq_false, if_false, hb, Sem.run_pure]; done)
           | (obtain ⟨h1, h2⟩ := hc
              have hb : ¬ b = 0 := by omega
              simp only [binOp, Op.intDiv, ne_eq, not_true_eq_false, if_false, hb, Sem.run_pure, Int.tmod_eq_emod_of_nonneg h1]; done)))
    | (simp only [Option.some.injEq, Prod.mk.injEq] at h
       obtain ⟨rfl, rfl⟩ := h
       first
       | (simp only [binOp, Op.intBits, ne_eq, not_true_eq_false, if_false, Sem.run_pure, bitsV]; done)
       | (simp only [binOp, Op.intCmp, ne_eq, not_true_eq_false, if_false, Sem.run_pure, GT.gt, GE.ge, Int.beq_eq_decide_eq, bne]; done)
       | (simp [binOp, Op.intCmp]; done)
       | (simp [binOp, Op.intCmp]; rfl))

def evBin (T : Tab) (nw : Bool) (op : BinOp) (t : TypeId) (cx cy : Bool) : Value → Value → Option (Option Prop × Value)
  | .int k a, .int k' b => match op with
    | .shl => some (some (0 ≤ b), .int k (shlV k a b))
    | .shr => some (some (0 ≤ b), .int k (shrV k a b))
    | _ => match k, k' with
      | .i64, .i64 => evInt nw op .i64 a b
      | .i32, .i32 => evInt nw op .i32 a b
      | .i16, .i16 => evInt nw op .i16 a b
      | .i8, .i8 => evInt nw op .i8 a b
      | .u64, .u64 => evInt nw op .u64 a b
      | .u32, .u32 => evInt nw op .u32 a b
      | .u16, .u16 => evInt nw op .u16 a b
      | .u8, .u8 => evInt nw op .u8 a b
      | _, _ => none
  | .string a, .string b => match op with
    | .add => some (some (a.size + b.size ≤ 9223372036854775807), .string (a ++ b))
    | .eql => some (none, .bool (decide (a = b)))
    | .neq => some (none, .bool (!decide (a = b)))
    | _ => none
  | .bool a, .bool b => match op, T.find t with
    | .eql, some ⟨.bool, _, _, _, _, _⟩ => some (none, .bool (a == b))
    | .neq, some ⟨.bool, _, _, _, _, _⟩ => some (none, .bool (!(a == b)))
    | _, _ => none
  | .pointer x, .pointer none => match op, T.find t with
    | .eql, some ⟨.pointer _, _, _, _, _, _⟩ => some (none, .bool x.isNone)
    | .neq, some ⟨.pointer _, _, _, _, _, _⟩ => some (none, .bool (!x.isNone))
    | _, _ => none
  | .iface _ _, .nilIface => match op, T.find t with
    | .eql, some ⟨.interface _, _, _, _, _, _⟩ => some (none, .bool false)
    | .neq, some ⟨.interface _, _, _, _, _, _⟩ => some (none, .bool true)
    | _, _ => none
  | .iface t1 v1, .iface t2 v2 => match op, T.find t, Nat.beq t1 t2 with
    | .eql, some ⟨.interface _, _, _, _, _, _⟩, false => some (none, .bool false)
    | .neq, some ⟨.interface _, _, _, _, _, _⟩, false => some (none, .bool true)
    | .eql, some ⟨.interface _, _, _, _, _, _⟩, true => match T.find t1, v1, v2 with
      | some ⟨.int _, _, _, _, _, true⟩, .int .i64 a, .int .i64 b => some (none, .bool (decide (a = b)))
      | _, _, _ => none
    | .neq, some ⟨.interface _, _, _, _, _, _⟩, true => match T.find t1, v1, v2 with
      | some ⟨.int _, _, _, _, _, true⟩, .int .i64 a, .int .i64 b => some (none, .bool (!decide (a = b)))
      | _, _, _ => none
    | _, _, _ => none
  | .nilIface, .iface _ _ => match op, T.find t with
    | .eql, some ⟨.interface _, _, _, _, _, _⟩ => some (none, .bool false)
    | .neq, some ⟨.interface _, _, _, _, _, _⟩ => some (none, .bool true)
    | _, _ => none
  | .nilIface, .nilIface => match op, T.find t, (cx || cy) with
    | .eql, some ⟨.interface _, _, _, _, _, _⟩, true => some (none, .bool true)
    | .neq, some ⟨.interface _, _, _, _, _, _⟩, true => some (none, .bool false)
    | _, _, _ => none
  | .slice a _ _, .slice none _ _ => match op, T.find t, a with
    | .eql, some ⟨.slice _, _, _, _, _, _⟩, some _ => some (none, .bool false)
    | .neq, some ⟨.slice _, _, _, _, _, _⟩, some _ => some (none, .bool true)
    | .eql, some ⟨.slice _, _, _, _, _, _⟩, none => some (none, .bool true)
    | .neq, some ⟨.slice _, _, _, _, _, _⟩, none => some (none, .bool false)
    | _, _, _ => none
  | _, _ => none

def isConstO : Operand → Bool
  | .const _ => true
  | _ => false

theorem guard_free {P : Program} {w : World} {op : BinOp} {t : TypeId} {x y : Operand} {a b : Value}
    (h : ∀ xs ys, ¬ (a = .agg xs ∧ b = .agg ys)) (hn : a = .nilIface → b = .nilIface → (isConstO x || isConstO y) = true) :
    (eqGuard op t x y a b).run P w = .ok () w := by
  have key : ∀ z : Operand, isConstO z = (z matches .const _) := fun z => by cases z <;> rfl
  cases op <;> simp [eqGuard] <;>
  · cases a <;> cases b <;> simp
    · have := hn rfl rfl
      rw [key, key] at this
      simp at this
      intro h1 h2
      rcases this with h | h
      · cases x <;> simp_all
      · cases y <;> simp_all
    · exact absurd ⟨rfl, rfl⟩ (h _ _)

theorem str_ok {P : Program} {nw : Bool} {T : Tab} {op : BinOp} {t : TypeId} {cx cy : Bool} {a b : ByteArray} {c : Option Prop} {v : Value}
    (h : evBin T nw op t cx cy (.string a) (.string b) = some (c, v)) (hc : Holds c) (w : World) : (binOp op t (.string a) (.string b)).run P w = .ok v w := by
  have e : (a.toList == b.toList) = decide (a = b) := by
    rw [ByteArray.toList_eq, ByteArray.toList_eq, Bool.eq_iff_iff, beq_iff_eq, decide_eq_true_eq]
    constructor
    · intro h
      cases a; cases b; congr; exact Array.toList_inj.1 h
    · intro h; rw [h]
  cases op <;> simp only [evBin] at h <;> first
    | (cases h; done)
    | (cases h
       simp only [Holds] at hc
       simp only [binOp, Op.stringOp, e, Sem.run_pure]; done)
    | (cases h
       simp only [Holds] at hc
       have : ¬ (((a.size + b.size : Nat) : Int) > IntKind.i64.max) := by
         simp [IntKind.max, IntKind.signed, IntKind.bits]; omega
       simp only [binOp, Op.stringOp, this, if_false, Sem.run_pure]; done)

theorem bin_eq {P : Program} {t : TypeId} {x y : Value} {b : Bool} {w : World} (he : binOp .eql t x y = (do pure (.bool (← Op.equal t x y)))) (h : (Op.equalIn 10000 t x y).run P w = .ok b w) :
    (binOp .eql t x y).run P w = .ok (.bool b) w := by
  rw [he]
  have h' : (Op.equal t x y).run P w = .ok b w := h
  simp only [Sem.run_bind, h', Result.andThen_ok, Sem.run_pure]
theorem bin_ne {P : Program} {t : TypeId} {x y : Value} {b : Bool} {w : World} (he : binOp .neq t x y = (do pure (.bool (!(← Op.equal t x y))))) (h : (Op.equalIn 10000 t x y).run P w = .ok b w) :
    (binOp .neq t x y).run P w = .ok (.bool (!b)) w := by
  rw [he]
  have h' : (Op.equal t x y).run P w = .ok b w := h
  simp only [Sem.run_bind, h', Result.andThen_ok, Sem.run_pure]
section
variable {P : Program} {t : TypeId} {w : World} (d : Nat)
theorem equalIn_bool (h : P.underlying t = some .bool) (a b : Bool) : (Op.equalIn (d + 1) t (.bool a) (.bool b)).run P w = .ok (a == b) w := by
  simp [Op.equalIn, run_underlying h]
theorem equalIn_ptr_nil {e : TypeId} (h : P.underlying t = some (.pointer e)) (p : Option Addr) : (Op.equalIn (d + 1) t (.pointer p) (.pointer none)).run P w = .ok p.isNone w := by
  cases p <;> simp [Op.equalIn, run_underlying h]
theorem equalIn_iface_nil {m} (h : P.underlying t = some (.interface m)) (u : TypeId) (v : Value) : (Op.equalIn (d + 1) t (.iface u v) .nilIface).run P w = .ok false w := by
  simp [Op.equalIn, run_underlying h]
theorem equalIn_nil_iface {m} (h : P.underlying t = some (.interface m)) (u : TypeId) (v : Value) : (Op.equalIn (d + 1) t .nilIface (.iface u v)).run P w = .ok false w := by
  simp [Op.equalIn, run_underlying h]
theorem equalIn_other {m} (h : P.underlying t = some (.interface m)) {t1 t2 : TypeId} (hne : t1 ≠ t2) (u v : Value) : (Op.equalIn (d + 1) t (.iface t1 u) (.iface t2 v)).run P w = .ok false w := by
  simp [Op.equalIn, run_underlying h, hne]
theorem equalIn_ints {m} (h : P.underlying t = some (.interface m)) {t1 : TypeId} {i : TI} (hi : TIOk P t1 i) {k0 : IntKind} (hd : i.desc = .int k0) (hc : i.cmp = true) (a b : Int) : (Op.equalIn (d + 2) t (.iface t1 (.int .i64 a)) (.iface t1 (.int .i64 b))).run P w = .ok (decide (a = b)) w := by
  obtain ⟨x, hx, hr, _, _, _, hcmp⟩ := run_info hi w
  have hu : P.underlying t1 = some (.int k0) := hd ▸ hi.desc
  rw [hc] at hcmp
  simp [Op.equalIn, run_underlying h, hr, hcmp, run_underlying hu]
  rfl
theorem equalIn_nil_nil {m} (h : P.underlying t = some (.interface m)) : (Op.equalIn (d + 1) t .nilIface .nilIface).run P w = .ok true w := by
  simp [Op.equalIn, run_underlying h]
theorem equalIn_slice_nil {e : TypeId} (h : P.underlying t = some (.slice e)) (p : Option Addr) (l m l' m' : Nat) : (Op.equalIn (d + 1) t (.slice p l m) (.slice none l' m')).run P w = .ok p.isNone w := by
  cases p <;> simp [Op.equalIn, run_underlying h]
end
theorem evBin_ok {P : Program} {T : Tab} (hT : T.ok P) {nw : Bool} {op : BinOp} {t : TypeId} {x y : Operand} {a b : Value} {c : Option Prop} {v : Value}
    (h : evBin T nw op t (isConstO x) (isConstO y) a b = some (c, v)) (hc : Holds c) (w : World) :
    (do eqGuard op t x y a b; binOp op t a b).run P w = .ok v w := by
  have fin : (binOp op t a b).run P w = .ok v w → (∀ xs ys, ¬ (a = .agg xs ∧ b = .agg ys)) → (a = .nilIface → b = .nilIface → (isConstO x || isConstO y) = true) →
      (do eqGuard op t x y a b; binOp op t a b).run P w = .ok v w := fun h1 h2 h3 => by
    simp only [Sem.run_bind, guard_free h2 h3, Result.andThen_ok]; exact h1
  cases a with
  | int k a =>
    cases b with
    | int k' b =>
      refine fin ?_ (by simp) (by simp)
      cases op
      case shl =>
        simp only [evBin, Option.some.injEq, Prod.mk.injEq] at h
        obtain ⟨rfl, rfl⟩ := h
        have hb : ¬ b < 0 := by simp only [Holds] at hc; omega
        simp only [binOp, Op.shift, hb, if_false, Sem.run_pure, shlV]
      case shr =>
        simp only [evBin, Option.some.injEq, Prod.mk.injEq] at h
        obtain ⟨rfl, rfl⟩ := h
        have hb : ¬ b < 0 := by simp only [Holds] at hc; omega
        simp only [binOp, Op.shift, hb, if_false, Sem.run_pure, shrV]
      all_goals
        cases k <;> cases k' <;> simp only [evBin] at h <;> first
          | (cases h; done)
          | exact evInt_ok h hc t w
    | _ => simp [evBin] at h
  | string a =>
    cases b with
    | string b => exact fin (str_ok h hc w) (by simp) (by simp)
    | _ => simp [evBin] at h
  | bool a =>
    cases b with
    | bool b =>
      refine fin ?_ (by simp) (by simp)
      simp only [evBin] at h
      split at h
      · rename_i ht; cases h; exact bin_eq rfl (equalIn_bool 9999 (Tab.find_ok hT ht).desc _ _)
      · rename_i ht; cases h; exact bin_ne rfl (equalIn_bool 9999 (Tab.find_ok hT ht).desc _ _)
      · cases h
    | _ => simp [evBin] at h
  | pointer p =>
    cases b with
    | pointer q =>
      cases q with
      | some q => simp [evBin] at h
      | none =>
        refine fin ?_ (by simp) (by simp)
        simp only [evBin] at h
        split at h
        · rename_i ht; cases h; exact bin_eq rfl (equalIn_ptr_nil 9999 (Tab.find_ok hT ht).desc _)
        · rename_i ht; cases h; exact bin_ne rfl (equalIn_ptr_nil 9999 (Tab.find_ok hT ht).desc _)
        · cases h
    | _ => simp [evBin] at h
  | iface t1 v1 =>
    cases b with
    | iface t2 v2 =>
      refine fin ?_ (by simp) (by simp)
      simp only [evBin] at h
      split at h
      · rename_i ht hb; cases h; exact bin_eq rfl (equalIn_other 9999 (Tab.find_ok hT ht).desc (Nat.ne_of_beq_eq_false hb) _ _)
      · rename_i ht hb; cases h; exact bin_ne rfl (equalIn_other 9999 (Tab.find_ok hT ht).desc (Nat.ne_of_beq_eq_false hb) _ _)
      · rename_i ht hb
        have hb := Nat.eq_of_beq_eq_true hb
        subst hb
        split at h
        · rename_i h1; cases h; exact bin_eq rfl (equalIn_ints 9998 (Tab.find_ok hT ht).desc (Tab.find_ok hT h1) rfl rfl _ _)
        · cases h
      · rename_i ht hb
        have hb := Nat.eq_of_beq_eq_true hb
        subst hb
        split at h
        · rename_i h1; cases h; exact bin_ne rfl (equalIn_ints 9998 (Tab.find_ok hT ht).desc (Tab.find_ok hT h1) rfl rfl _ _)
        · cases h
      · cases h
    | nilIface =>
      refine fin ?_ (by simp) (by simp)
      simp only [evBin] at h
      split at h
      · rename_i ht; cases h; exact bin_eq rfl (equalIn_iface_nil 9999 (Tab.find_ok hT ht).desc _ _)
      · rename_i ht; cases h; exact bin_ne rfl (equalIn_iface_nil 9999 (Tab.find_ok hT ht).desc _ _)
      · cases h
    | _ => simp [evBin] at h
  | nilIface =>
    cases b with
    | iface t1 v1 =>
      refine fin ?_ (by simp) (by simp)
      simp only [evBin] at h
      split at h
      · rename_i ht; cases h; exact bin_eq rfl (equalIn_nil_iface 9999 (Tab.find_ok hT ht).desc _ _)
      · rename_i ht; cases h; exact bin_ne rfl (equalIn_nil_iface 9999 (Tab.find_ok hT ht).desc _ _)
      · cases h
    | nilIface =>
      simp only [evBin] at h
      split at h
      · rename_i ht hc'; cases h; exact fin (bin_eq rfl (equalIn_nil_nil 9999 (Tab.find_ok hT ht).desc)) (by simp) (fun _ _ => hc')
      · rename_i ht hc'; cases h; exact fin (bin_ne rfl (equalIn_nil_nil 9999 (Tab.find_ok hT ht).desc)) (by simp) (fun _ _ => hc')
      · cases h
    | _ => simp [evBin] at h
  | slice p l m =>
    cases b with
    | slice q l' m' =>
      cases q with
      | some q => simp [evBin] at h
      | none =>
        refine fin ?_ (by simp) (by simp)
        simp only [evBin] at h
        split at h
        all_goals first
          | (cases h; done)
          | (rename_i ht; cases h; exact bin_eq rfl (equalIn_slice_nil 9999 (Tab.find_ok hT ht).desc _ _ _ _ _))
          | (rename_i ht; cases h; exact bin_ne rfl (equalIn_slice_nil 9999 (Tab.find_ok hT ht).desc _ _ _ _ _))
    | _ => simp [evBin] at h
  | _ => cases b <;> simp [evBin] at h
end Go.GL
/- One operation's value, out of what the temporaries are known to hold: the operations that only compute. -/
namespace Go.GL
open Go

def nthL : List Value → Nat → Option Value
  | [], _ => none
  | v :: _, 0 => some v
  | _ :: r, n + 1 => nthL r n
def takeL : List Value → Nat → Option (List Value)
  | _, 0 => some []
  | [], _ + 1 => none
  | v :: r, n + 1 => match takeL r n with
    | some l => some (v :: l)
    | none => none
def cutL : List Value → Nat → Nat → Option (List Value)
  | l, 0, n => takeL l n
  | [], _ + 1, _ => none
  | _ :: r, o + 1, n => cutL r o n
theorem nthL_eq (l : List Value) (n : Nat) : nthL l n = l[n]? := by
  induction l generalizing n with
  | nil => rfl
  | cons v r ih => cases n <;> simp [nthL, ih]
theorem takeL_eq {l : List Value} {n : Nat} {r : List Value} (h : takeL l n = some r) : r = l.take n ∧ r.length = n := by
  induction l generalizing n r with
  | nil => cases n <;> simp_all [takeL]
  | cons v t ih =>
    cases n with
    | zero => simp_all [takeL]
    | succ n =>
      simp only [takeL] at h
      split at h
      · rename_i l' hl; cases h; obtain ⟨h1, h2⟩ := ih hl; simp [h1.symm, h2]
      · cases h
theorem cutL_eq {l : List Value} {o n : Nat} {r : List Value} (h : cutL l o n = some r) : r = (l.drop o).take n ∧ r.length = n := by
  induction l generalizing o with
  | nil =>
    cases o with
    | zero => simpa [cutL] using takeL_eq (l := []) (by simpa [cutL] using h)
    | succ o => simp [cutL] at h
  | cons v t ih =>
    cases o with
    | zero => simpa [cutL] using takeL_eq h
    | succ o => simpa using ih (by simpa [cutL] using h)

/-- the condition, and a test besides -/
def Gd.more : Gd → Bool → Gd
  | none, g => some g
  | some p, g => some (p && g)
def cndO : Gd → Option Prop → Option Prop
  | _, none => none
  | q, some p => cnd q p
theorem cndO_ok {q : Gd} {p : Option Prop} (h : Holds (cndO q p)) (hq : q.on) : Holds p := by
  cases p with
  | none => exact trivial
  | some p => exact cnd_ok h hq
/-- where a slice begins that was cut at l -/
def cutA (a : Option Addr) (cap l size : Nat) : Option Addr := if cap = l then a else a.map (·.add (l * size))
def byteAt (s : ByteArray) (i : Int) : Int := ((s.data.toList)[i.toNat]?.getD 0).toNat

def fieldOf (T : Tab) (t : TypeId) (f : Nat) : Option (Field × TI) :=
  match T.find t with
  | some ⟨.struct fs, _, _, _, _, _⟩ => match fs.toList[f]? with
    | some fd => match T.find fd.type with
      | some ti => some (fd, ti)
      | none => none
    | none => none
  | _ => none

def evLen (T : Tab) (t : TypeId) : Value → Option (Option Prop × Value)
  | .slice _ n _ => match T.find t with
    | some ⟨.slice _, _, _, _, _, _⟩ => some (none, .int .i64 n)
    | _ => none
  | .string s => match T.find t with
    | some ⟨.string, _, _, _, _, _⟩ => some (none, .int .i64 s.size)
    | _ => none
  | .agg _ => match T.find t with
    | some ⟨.array n _, _, _, _, _, _⟩ => some (none, .int .i64 n)
    | _ => none
  | _ => none

/-- a bound of a slice expression -/
def rdO (q : Gd) (env : Env) : Option Operand → Option (Option (Option Prop × Int))
  | none => some none
  | some x => match rd q env x with
    | some (c, .int _ n) => some (some (c, n))
    | _ => none
/-- a number that is not negative, as it is spelled ('nw'), or cut off at 0 -/
def nat? : Bool → Int → Option Nat
  | true, .ofNat m => some m
  | true, .negSucc _ => none
  | false, n => some n.toNat
theorem nat?_ok {nw : Bool} {n : Int} {m : Nat} (h : nat? nw n = some m) (h0 : 0 ≤ n) : n.toNat = m := by
  cases nw with
  | true =>
    cases n with
    | ofNat k => simp only [nat?, Option.some.injEq] at h; subst h; rfl
    | negSucc k => cases h
  | false => simp only [nat?, Option.some.injEq] at h; exact h
/-- a slice's bounds: the lower one (if it is told), the upper one -/
def bnds (nw : Bool) (q : Gd) (len cap : Nat) : Option (Option Prop × Int) → Option (Option Prop × Int) → Option (Option Prop × Option Nat × Nat)
  | none, none => some (none, none, len)
  | some (c, l), none => match nat? nw l with
    | some l' => some (andC c (cnd q (0 ≤ l ∧ l ≤ len)), some l', len)
    | none => none
  | none, some (c, h) => match nat? nw h with
    | some h' => some (andC c (cnd q (0 ≤ h ∧ h ≤ cap)), none, h')
    | none => none
  | some (c, l), some (c', h) => match nat? nw l, nat? nw h with
    | some l', some h' => some (andC c (andC c' (cnd q (0 ≤ l ∧ l ≤ h ∧ h ≤ cap))), some l', h')
    | _, _ => none
def evSlice (T : Tab) (nw : Bool) (q : Gd) (t : TypeId) (lo hi : Option (Option Prop × Int)) : Value → Option (Option Prop × Value)
  | .slice a len cap => match T.find t with
    | some ⟨.slice e, _, _, _, _, _⟩ => match T.find e, bnds nw q len cap lo hi with
      | some _, some (c, none, h) => fin c (.slice a h cap)
      | some ⟨_, sz, _, _, _, _⟩, some (c, some l, h) => fin c (.slice (cutA a cap l sz) (h - l) (cap - l))
      | _, _ => none
    | _ => none
  | .string s => match T.find t with
    | some ⟨.string, _, _, _, _, _⟩ => match bnds nw q s.size s.size lo hi with
      | some (c, none, h) => fin c (.string (s.extract 0 h))
      | some (c, some l, h) => fin c (.string (s.extract l h))
      | none => none
    | _ => none
  | .pointer (some a) => match T.find t with
    | some ⟨.array n e, _, _, _, _, _⟩ => match T.find e, bnds nw q n n lo hi with
      | some _, some (c, none, h) => fin c (.slice (some a) h n)
      | some ⟨_, sz, _, _, _, _⟩, some (c, some l, h) => fin c (.slice (cutA (some a) n l sz) (h - l) (n - l))
      | _, _ => none
    | _ => none
  | _ => none

def evCall (q : Gd) (T : Tab) (env : Env) : Call → Option (Option Prop × Value)
  | ⟨.builtin .len, ⟨[x]⟩, ⟨[t]⟩⟩ => match rd q env x with
    | some (c, v) => match evLen T t v with
      | some (c', v') => fin (andC c c') v'
      | none => none
    | none => none
  | ⟨.builtin .min, ⟨[x, y]⟩, _⟩ => match rd q env x, rd q env y with
    | some (c1, .int k a), some (c2, .int _ b) => fin (andC c1 c2) (.int k (if b < a then b else a))
    | _, _ => none
  | ⟨.builtin .max, ⟨[x, y]⟩, _⟩ => match rd q env x, rd q env y with
    | some (c1, .int k a), some (c2, .int _ b) => fin (andC c1 c2) (.int k (if a < b then b else a))
    | _, _ => none
  | _ => none
def ev (T : Tab) (nw : Bool) (q : Gd) (env : Env) : Op → Option (Option Prop × Value)
  | .move x => rd q env x
  | .assign x => rd q env x
  | .pick c a b => match rd q env c with
    | some (cc, .bool g) => match rd (q.more g) env a, rd (q.more (!g)) env b with
      | some (ca, .bool x), some (cb, .bool y) => fin (andC cc (andC ca cb)) (.bool (bif g then x else y))
      | _, _ => none
    | _ => none
  | .nilCheck x => match rd q env x with
    | some (c, .pointer (some a)) => some (c, .pointer (some a))
    | some (c, .iface t v) => some (c, .iface t v)
    | _ => none
  | .binOp op t x y _ => match rd q env x, rd q env y with
    | some (c1, a), some (c2, b) => match evBin T nw op t (isConstO x) (isConstO y) a b with
      | some (c3, v) => fin (andC c1 (andC c2 (cndO q c3))) v
      | none => none
    | _, _ => none
  | .unOp op _ x => match op, rd q env x with
    | .not, some (c, .bool b) => some (c, .bool (!b))
    | .neg, some (c, .int k n) => match nw with
      | true => fin (andC c (cndO q (fitC k (0 - n)))) (.int k (0 - n))
      | false => some (c, .int k (k.wrap (0 - n)))
    | .xor, some (c, .int k n) => some (c, .int k (bitsV .xor k (if k.signed then -1 else k.max) n))
    | _, _ => none
  | .convert s d x => match T.find s, T.find d, rd q env x with
    | some _, some ⟨.int k, _, _, _, _, _⟩, some (c, .int _ n) => match nw with
      | true => fin (andC c (cndO q (fitC k n))) (.int k n)
      | false => some (c, .int k (k.wrap n))
    | some _, some ⟨.string, _, _, _, _, _⟩, some (c, .string x) => some (c, .string x)
    | _, _, _ => none
  | .makeInterface t x => match T.find t, rd q env x with
    | some ⟨.interface _, _, _, _, _, _⟩, _ => none
    | some _, some (c, v) => some (c, .iface t v)
    | _, _ => none
  | .field t x f => match fieldOf T t f, rd q env x with
    | some (fd, ti), some (c, .agg cs) => match ti.agg with
      | true => match cutL cs.toList fd.offset ti.size with
        | some l => some (c, .agg l.toArray)
        | none => none
      | false => match nthL cs.toList fd.offset with
        | some v => some (c, v)
        | none => none
    | _, _ => none
  | .extract x i => match rd q env x with
    | some (c, .tuple vs) => match nthL vs.toList i with
      | some v => some (c, v)
      | none => none
    | _ => none
  | .fieldAddr t x f => match fieldOf T t f, rd q env x with
    | some (⟨_, _, o, _, _, _, _⟩, ⟨_, _ + 1, _, _, _, _⟩), some (c, .pointer (some ⟨b, off, none⟩)) => some (c, .pointer (some ⟨b, off + o, none⟩))
    | _, _ => none
  | .indexAddr t x ix => match rd q env ix, rd q env x, T.find t with
    | some (c1, .int _ i), some (c2, .slice (some ⟨b, off, none⟩) len _), some ⟨.slice e, _, _, _, _, _⟩ => match T.find e, nat? nw i with
      | some ⟨_, sz, _, _, _, _⟩, some i' => fin (andC c1 (andC c2 (cnd q (0 ≤ i ∧ i < len)))) (.pointer (some ⟨b, off + i' * sz, none⟩))
      | _, _ => none
    | some (c1, .int _ i), some (c2, .pointer (some ⟨b, off, none⟩)), some ⟨.array len e, _, _, _, _, _⟩ => match T.find e, nat? nw i with
      | some ⟨_, sz, _, _, _, _⟩, some i' => fin (andC c1 (andC c2 (cnd q (0 ≤ i ∧ i < len)))) (.pointer (some ⟨b, off + i' * sz, none⟩))
      | _, _ => none
    | _, _, _ => none
  | .index t x ix => match rd q env ix, rd q env x, T.find t with
    | some (c1, .int _ i), some (c2, .string s), some ⟨.string, _, _, _, _, _⟩ => fin (andC c1 (andC c2 (cnd q (0 ≤ i ∧ i < s.size)))) (.int .u8 (byteAt s i))
    | some (c1, .int _ i), some (c2, .agg cs), some ⟨.array len e, _, _, _, _, _⟩ => match T.find e, nat? nw i with
      | some ⟨_, sz, _, _, false, _⟩, some i' => match nthL cs.toList (i' * sz) with
        | some v => fin (andC c1 (andC c2 (cnd q (0 ≤ i ∧ i < len)))) v
        | none => none
      | _, _ => none
    | _, _, _ => none
  | .slice t x lo hi none => match rdO q env lo, rdO q env hi, rd q env x with
    | some l, some h, some (c, v) => match evSlice T nw q t l h v with
      | some (c', v') => fin (andC c c') v'
      | none => none
    | _, _, _ => none
  | .call cl => evCall q T env cl
  | _ => none
end Go.GL
/- The operations that only compute: what GLd says of them is what the model does. -/
namespace Go.GL
open Go

theorem val_run {P : Program} {s : Sem Value} {v : Value} {w : World} (h : s.run P w = .ok v w) : (do pure (Next.value (← s)) : Sem Next).run P w = .ok (.value v) w := by
  simp only [Sem.run_bind, h, Result.andThen_ok, Sem.run_pure]
theorem addr_add (b off n : Nat) : (⟨b, off, none⟩ : Addr).add n = ⟨b, off + n, none⟩ := by
  unfold Addr.add; split
  · simp_all
  · rfl
theorem fieldOf_ok {P : Program} {T : Tab} (hT : T.ok P) {t f : Nat} {fd : Field} {ti : TI} (h : fieldOf T t f = some (fd, ti)) :
    ∃ fs : Array Field, P.underlying t = some (.struct fs) ∧ fs[f]? = some fd ∧ TIOk P fd.type ti := by
  unfold fieldOf at h
  split at h
  · rename_i fs _ _ _ _ _ ht
    split at h
    · rename_i fd' hf
      split at h
      · rename_i ti' hti
        cases h
        exact ⟨fs, (Tab.find_ok hT ht).desc, by simpa using hf, Tab.find_ok hT hti⟩
      · cases h
    · cases h
  · cases h
theorem bound_ok {P : Program} {k : IntKind} {n : Int} {y : Nat} (code : BoundsCode) (h0 : 0 ≤ n) (h1 : n ≤ y) (w : World) : (Instr.sliceBound (.int k n) y code).run P w = .ok n.toNat w := by
  simp [Instr.sliceBound, asIntOf, h0, h1]
theorem rdO_ok {N : Nat} {env : Env} {a : Act} (h : Agree N env a) {q : Gd} {x : Option Operand} {r : Option (Option Prop × Int)} (e : rdO q env x = some r) (hq : q.on) :
    (x = none ∧ r = none) ∨ ∃ y c n, x = some y ∧ r = some (c, n) ∧ (Holds c → ∃ k, a.eval y = .int k n) := by
  cases x with
  | none => left; simp only [rdO, Option.some.injEq] at e; exact ⟨rfl, e.symm⟩
  | some y =>
    right
    simp only [rdO] at e
    cases hr : rd q env y with
    | none => rw [hr] at e; cases e
    | some z =>
      rw [hr] at e
      obtain ⟨c, v⟩ := z
      cases v <;> simp only [Option.some.injEq] at e <;> first | (cases e; done) | skip
      rename_i k n
      exact ⟨y, c, n, rfl, e.symm, fun hc => ⟨k, rd_ok h hr hc hq⟩⟩

theorem bounds_ok {P : Program} {N : Nat} {env : Env} {a : Act} (ha : Agree N env a) {nw : Bool} {q : Gd} (hq : q.on) {lo hi : Option Operand} {l h : Option (Option Prop × Int)}
    (hl : rdO q env lo = some l) (hh : rdO q env hi = some h) (s : Bool) {len cap : Nat} {c : Option Prop} {x : Option Nat} {y : Nat} (hb : bnds nw q len cap l h = some (c, x, y)) (hc : Holds c) (w : World) :
    (Instr.sliceBounds s len cap (lo.map a.eval) (hi.map a.eval) none).run P w = .ok (x.getD 0, y, cap) w := by
  rcases rdO_ok ha hl hq with ⟨rfl, rfl⟩ | ⟨u, c1, n, rfl, rfl, hx⟩ <;> rcases rdO_ok ha hh hq with ⟨rfl, rfl⟩ | ⟨z, c2, m, rfl, rfl, hy⟩
  · simp only [bnds, Option.some.injEq, Prod.mk.injEq] at hb
    obtain ⟨rfl, rfl, rfl⟩ := hb
    simp [Instr.sliceBounds]
  · simp only [bnds] at hb
    split at hb
    · rename_i h' hn
      cases hb
      obtain ⟨cl, hc⟩ := holds_andC hc
      obtain ⟨h0, h1⟩ := cnd_ok hc hq
      obtain ⟨k, e⟩ := hy cl
      simp [Instr.sliceBounds, e, bound_ok _ h0 h1, nat?_ok hn h0]
    · cases hb
  · simp only [bnds] at hb
    split at hb
    · rename_i h' hn
      cases hb
      obtain ⟨cl, hc⟩ := holds_andC hc
      obtain ⟨h0, h1⟩ := cnd_ok hc hq
      obtain ⟨k, e⟩ := hx cl
      simp [Instr.sliceBounds, e, bound_ok _ h0 h1, nat?_ok hn h0]
    · cases hb
  · simp only [bnds] at hb
    split at hb
    · rename_i l' h' hn hn'
      cases hb
      obtain ⟨cl, hc⟩ := holds_andC hc
      obtain ⟨ch, hc⟩ := holds_andC hc
      obtain ⟨h0, h1, h2⟩ := cnd_ok hc hq
      obtain ⟨k, e⟩ := hx cl
      obtain ⟨k', e'⟩ := hy ch
      have hy' := nat?_ok hn' (show 0 ≤ m by omega)
      subst hy'
      simp [Instr.sliceBounds, e, e', bound_ok _ (show 0 ≤ m by omega) h2, bound_ok (P := P) .sliceB h0 (show n ≤ (m.toNat : Nat) by omega), nat?_ok hn h0]
    · cases hb

theorem cutA_zero (a : Option Addr) (cap size : Nat) : cutA a cap 0 size = a := by
  unfold cutA
  split
  · rfl
  · cases a <;> simp [Addr.add]
section
variable {P : Program} {T : Tab} {N : Nat} {env : Env} {a : Act} {q : Gd} {nw : Bool} {o : Oper} {c : Option Prop} {v : Value}
theorem evSlice_ok (hT : T.ok P) (ha : Agree N env a) (hq : q.on) {t : TypeId} {x lo hi} {l h : Option (Option Prop × Int)} {u : Value} {c0 : Option Prop} (hx : rd q env x = some (c0, u)) (hc0 : Holds c0)
    (hl : rdO q env lo = some l) (hh : rdO q env hi = some h) (he : evSlice T nw q t l h u = some (c, v)) (hc : Holds c) (w : World) :
    (Instr.sliceAt t (a.eval x) (lo.map a.eval) (hi.map a.eval) none).run P w = .ok v w := by
  rw [rd_ok ha hx hc0 hq]
  cases u with
  | slice p len cap =>
    simp only [evSlice] at he
    split at he
    · rename_i e _ _ _ _ _ ht
      have hu := (Tab.find_ok hT ht).desc
      split at he
      · rename_i ti c1 y1 hti hb
        obtain ⟨rfl, rfl⟩ := fin_eq he
        have hz := cutA_zero p cap ti.size
        unfold cutA at hz
        simp only [Instr.sliceAt, Instr.slice, Sem.run_bind, run_underlying hu, Result.andThen_ok, bounds_ok ha hq hl hh true hb hc, run_size (Tab.find_ok hT hti), Sem.run_pure, Option.getD_none, hz, Nat.sub_zero]
      · rename_i dsc sz by_ z ag cm c1 x1 y1 hti hb
        obtain ⟨rfl, rfl⟩ := fin_eq he
        simp only [Instr.sliceAt, Instr.slice, Sem.run_bind, run_underlying hu, Result.andThen_ok, bounds_ok ha hq hl hh true hb hc, run_size (Tab.find_ok hT hti), Sem.run_pure, Option.getD_some, cutA]
      · cases he
    · cases he
  | string s =>
    simp only [evSlice] at he
    split at he
    · rename_i _ _ _ _ _ ht
      have hu := (Tab.find_ok hT ht).desc
      split at he
      · rename_i hb
        obtain ⟨rfl, rfl⟩ := fin_eq he
        simp [Instr.sliceAt, Instr.slice, Sem.run_bind, run_underlying hu, bounds_ok (P := P) ha hq hl hh false hb hc]
      · rename_i hb
        obtain ⟨rfl, rfl⟩ := fin_eq he
        simp [Instr.sliceAt, Instr.slice, Sem.run_bind, run_underlying hu, bounds_ok (P := P) ha hq hl hh false hb hc]
      · cases he
    · cases he
  | pointer p =>
    cases p with
    | none => simp [evSlice] at he
    | some p =>
      simp only [evSlice] at he
      split at he
      · rename_i n e _ _ _ _ _ ht
        have hu := (Tab.find_ok hT ht).desc
        split at he
        · rename_i ti c1 y1 hti hb
          obtain ⟨rfl, rfl⟩ := fin_eq he
          have hz := cutA_zero (some p) n ti.size
          simp only [Instr.sliceAt, Instr.sureAddr, Sem.run_bind, run_underlying hu, Result.andThen_ok, bounds_ok ha hq hl hh false hb hc, run_size (Tab.find_ok hT hti), Sem.run_pure, Option.getD_none, Nat.sub_zero]
          split <;> simp [Addr.add]
        · rename_i dsc sz by_ z ag cm c1 x1 y1 hti hb
          obtain ⟨rfl, rfl⟩ := fin_eq he
          simp only [Instr.sliceAt, Instr.sureAddr, Sem.run_bind, run_underlying hu, Result.andThen_ok, bounds_ok ha hq hl hh false hb hc, run_size (Tab.find_ok hT hti), Sem.run_pure, Option.getD_some, cutA]
          split <;> simp_all
        · cases he
      · cases he
  | _ => simp [evSlice] at he

theorem evLen_ok (hT : T.ok P) {t : TypeId} {u : Value} (he : evLen T t u = some (c, v)) (w : World) : (Builtin.len_ #[t] o.type #[u]).run P w = .ok v w := by
  cases u <;> simp only [evLen] at he <;> first
    | (cases he; done)
    | (split at he
       · rename_i ht; cases he
         have hu := (Tab.find_ok hT ht).desc
         simp [Builtin.len_, run_underlying hu, goInt]
       · cases he)

theorem ev_ok (hT : T.ok P) (he : ev T nw q env o.op = some (c, v)) (hc : Holds c) (hq : q.on) (ha : Agree N env a) (w : World) : (execOp a.eval o).run P w = .ok (.value v) w := by
  obtain ⟨dst, op, type, pos, after, guard⟩ := o
  simp only at he
  cases op with
  | move x =>
    have := rd_ok ha he hc hq
    simp only [execOp, this, Sem.run_pure]
  | assign x =>
    have := rd_ok ha he hc hq
    simp only [execOp, this, Sem.run_pure]
  | pick z x y =>
    simp only [ev] at he
    split at he
    · rename_i cc g hz
      split at he
      · rename_i ca x' cb y' hx hy
        obtain ⟨rfl, rfl⟩ := fin_eq he
        obtain ⟨c1, hc⟩ := holds_andC hc
        obtain ⟨c2, c3⟩ := holds_andC hc
        have ez := rd_ok ha hz c1 hq
        simp only [execOp, ez, asBool, Sem.run_bind, Sem.run_pure, Result.andThen_ok]
        cases g with
        | true =>
          have : (q.more true).on := by cases q <;> simp_all [Gd.more, Gd.on]
          rw [rd_ok ha hx c2 this]; rfl
        | false =>
          have : (q.more (!false)).on := by cases q <;> simp_all [Gd.more, Gd.on]
          rw [rd_ok ha hy c3 this]; rfl
      · cases he
    · cases he
  | nilCheck x =>
    simp only [ev] at he
    split at he
    · rename_i c' p hx; cases he
      simp only [execOp, rd_ok ha hx hc hq, Sem.run_pure]
    · rename_i c' t' v' hx; cases he
      simp only [execOp, rd_ok ha hx hc hq, Sem.run_pure]
    · cases he
  | binOp op t x y yt =>
    simp only [ev] at he
    split at he
    · rename_i c1 u c2 u' hx hy
      split at he
      · rename_i c3 v' hb
        obtain ⟨rfl, rfl⟩ := fin_eq he
        obtain ⟨h1, hc⟩ := holds_andC hc
        obtain ⟨h2, h3⟩ := holds_andC hc
        simp only [execOp, rd_ok ha hx h1 hq, rd_ok ha hy h2 hq]
        exact val_run (evBin_ok hT hb (cndO_ok h3 hq) w)
      · cases he
    · cases he
  | unOp op t x =>
    simp only [ev] at he
    split at he
    · rename_i c' b hx; cases he
      simp only [execOp, rd_ok ha hx hc hq, Op.unary, Sem.run_bind, Sem.run_pure, Result.andThen_ok]
    · rename_i c' k n hx
      cases nw with
      | true =>
        obtain ⟨rfl, rfl⟩ := fin_eq he
        obtain ⟨h1, h2⟩ := holds_andC hc
        simp only [execOp, rd_ok ha hx h1 hq, Op.unary, Op.intArith, Sem.run_bind, Sem.run_pure, Result.andThen_ok, wrap_fit (fitC_ok (cndO_ok h2 hq))]
      | false =>
        cases he
        simp only [execOp, rd_ok ha hx hc hq, Op.unary, Op.intArith, Sem.run_bind, Sem.run_pure, Result.andThen_ok]
    · rename_i c' k n hx
      cases he
      simp only [execOp, rd_ok ha hx hc hq, Op.unary, Op.intBits, Sem.run_bind, Sem.run_pure, Result.andThen_ok, bitsV]
    · cases he
  | convert s d x =>
    simp only [ev] at he
    split at he
    · rename_i is k _ _ _ _ _ c' k' n hs hd hx
      have us := (Tab.find_ok hT hs).desc
      have ud := (Tab.find_ok hT hd).desc
      cases nw with
      | true =>
        obtain ⟨rfl, rfl⟩ := fin_eq he
        obtain ⟨h1, h2⟩ := holds_andC hc
        have e := rd_ok ha hx h1 hq
        simp only [execOp, convert, Sem.run_bind, run_underlying us, run_underlying ud, Result.andThen_ok, e, Conv.intToInt, Sem.run_pure, wrap_fit (fitC_ok (cndO_ok h2 hq))]
      | false =>
        cases he
        have e := rd_ok ha hx hc hq
        simp only [execOp, convert, Sem.run_bind, run_underlying us, run_underlying ud, Result.andThen_ok, e, Conv.intToInt, Sem.run_pure]
    · rename_i is _ _ _ _ _ c' x' hs hd hx
      have us := (Tab.find_ok hT hs).desc
      have ud := (Tab.find_ok hT hd).desc
      cases he
      have e := rd_ok ha hx hc hq
      simp only [execOp, convert, Sem.run_bind, run_underlying us, run_underlying ud, Result.andThen_ok, e]
      cases is.desc <;> simp
    · cases he
  | makeInterface t x =>
    simp only [ev] at he
    split at he
    · cases he
    · rename_i ti c' v' hn ht hx
      cases he
      have e := rd_ok ha hx hc hq
      have u := (Tab.find_ok hT ht).desc
      simp only [execOp, Instr.makeInterface, Sem.run_bind, run_underlying u, Result.andThen_ok, e]
      split
      · rename_i ms hd
        obtain ⟨d, _, _, _, _, _⟩ := ti
        simp only at hd
        subst hd
        exact (hn _ _ _ _ _ _ rfl).elim
      · simp
    · cases he
  | field t x f =>
    simp only [ev] at he
    split at he
    · rename_i fd ti c' cs hf hx
      obtain ⟨fs, u, e1, e2⟩ := fieldOf_ok hT hf
      cases hag : ti.agg with
      | true =>
        rw [hag] at he
        simp only [] at he
        split at he
        · rename_i l hl
          cases he
          obtain ⟨h1, h2⟩ := cutL_eq hl
          simp only [execOp, Instr.field, Sem.run_bind, run_underlying u, Result.andThen_ok, e1, rd_ok ha hx hc hq, asAgg, part, Sem.run_pure, run_isAgg e2, hag, if_true, run_size e2]
          have e3 : cs.extract fd.offset (fd.offset + ti.size) = l.toArray := by
            apply Array.ext'
            simp [h1, List.extract_eq_take_drop]
          rw [e3]
        · cases he
      | false =>
        rw [hag] at he
        simp only [] at he
        split at he
        · rename_i v' hl
          cases he
          rw [nthL_eq] at hl
          simp only [execOp, Instr.field, Sem.run_bind, run_underlying u, Result.andThen_ok, e1, rd_ok ha hx hc hq, asAgg, part, Sem.run_pure, run_isAgg e2, hag]
          have : cs[fd.offset]? = some v := by simpa using hl
          simp [this]
        · cases he
    · cases he
  | extract x i =>
    simp only [ev] at he
    split at he
    · rename_i c' vs hx
      split at he
      · rename_i v' hl
        cases he
        rw [nthL_eq] at hl
        have : vs[i]? = some v := by simpa using hl
        simp [execOp, rd_ok ha hx hc hq, Instr.extract, this]
      · cases he
    · cases he
  | fieldAddr t x f =>
    simp only [ev] at he
    split at he
    · rename_i nm ty of_ em tg pk bo dsc sz by_ z ag cm c' b off hf hx
      obtain ⟨fs, u, e1, e2⟩ := fieldOf_ok hT hf
      cases he
      simp only [execOp, Instr.fieldAt, Sem.run_bind, run_underlying u, Result.andThen_ok, e1, rd_ok ha hx hc hq, Instr.sureAddr, Sem.run_pure, fieldPlace, run_size e2]
      simp [addr_add]
    · cases he
  | indexAddr t x ix =>
    simp only [ev] at he
    split at he
    · rename_i c1 k i c2 b off len cap e _ _ _ _ _ hi hx ht
      split at he
      · rename_i dsc sz by_ z ag cm i' hti hn
        obtain ⟨rfl, rfl⟩ := fin_eq he
        obtain ⟨h1, hc⟩ := holds_andC hc
        obtain ⟨h2, h3⟩ := holds_andC hc
        obtain ⟨h4, h5⟩ := cnd_ok h3 hq
        have u := (Tab.find_ok hT ht).desc
        simp [execOp, Instr.indexAt, rd_ok ha hi h1 hq, rd_ok ha hx h2 hq, asIntOf, run_underlying u, h4, h5, run_size (Tab.find_ok hT hti), addr_add, nat?_ok hn h4]
      · cases he
    · rename_i c1 k i c2 b off len e _ _ _ _ _ hi hx ht
      split at he
      · rename_i dsc sz by_ z ag cm i' hti hn
        obtain ⟨rfl, rfl⟩ := fin_eq he
        obtain ⟨h1, hc⟩ := holds_andC hc
        obtain ⟨h2, h3⟩ := holds_andC hc
        obtain ⟨h4, h5⟩ := cnd_ok h3 hq
        have u := (Tab.find_ok hT ht).desc
        simp [execOp, Instr.indexAt, rd_ok ha hi h1 hq, rd_ok ha hx h2 hq, asIntOf, run_underlying u, Instr.sureAddr, h4, h5, run_size (Tab.find_ok hT hti), addr_add, nat?_ok hn h4]
      · cases he
    · cases he
  | index t x ix =>
    simp only [ev] at he
    split at he
    · rename_i c1 k i c2 s _ _ _ _ _ hi hx ht
      obtain ⟨rfl, rfl⟩ := fin_eq he
      obtain ⟨h1, hc⟩ := holds_andC hc
      obtain ⟨h2, h3⟩ := holds_andC hc
      obtain ⟨h4, h5⟩ := cnd_ok h3 hq
      have u := (Tab.find_ok hT ht).desc
      have hlt : i.toNat < s.size := by omega
      have hlt' : i.toNat < s.data.size := hlt
      have e1 : s[i.toNat]? = some s[i.toNat] := by simp [hlt]
      simp only [execOp, Instr.index, rd_ok ha hi h1 hq, rd_ok ha hx h2 hq, asIntOf, Sem.run_bind, Sem.run_pure, Result.andThen_ok, run_underlying u, h4, if_true, e1, byteAt]
      congr 3
      have e2 : s.data.toList[i.toNat]? = some s[i.toNat] := by
        rw [ByteArray.getElem_eq_getElem_data]
        simp
      rw [e2]; rfl
    · rename_i c1 k i c2 cs len e _ _ _ _ _ hi hx ht
      split at he
      · rename_i dsc sz by_ z cm i' hti hn
        split at he
        · rename_i v' hv
          obtain ⟨rfl, rfl⟩ := fin_eq he
          obtain ⟨h1, hc⟩ := holds_andC hc
          obtain ⟨h2, h3⟩ := holds_andC hc
          obtain ⟨h4, h5⟩ := cnd_ok h3 hq
          have u := (Tab.find_ok hT ht).desc
          rw [nthL_eq] at hv
          have hv' : cs[i' * sz]? = some v := by simpa using hv
          simp [execOp, Instr.index, rd_ok ha hi h1 hq, rd_ok ha hx h2 hq, asIntOf, run_underlying u, h4, h5, run_size (Tab.find_ok hT hti), nat?_ok hn h4, part, run_isAgg (Tab.find_ok hT hti), hv']
        · cases he
      · cases he
    · cases he
  | slice t x lo hi mx =>
    cases mx with
    | some m => simp [ev] at he
    | none =>
      simp only [ev] at he
      split at he
      · rename_i l h c' u hl hh hx
        split at he
        · rename_i c'' v' hs
          obtain ⟨rfl, rfl⟩ := fin_eq he
          obtain ⟨h1, h2⟩ := holds_andC hc
          exact val_run (evSlice_ok hT ha hq hx h1 hl hh hs h2 w)
        · cases he
      · cases he
  | call cl =>
    simp only [ev] at he
    unfold evCall at he
    split at he
    · rename_i x t
      split at he
      · rename_i c' u hx
        split at he
        · rename_i c'' v' hs
          obtain ⟨rfl, rfl⟩ := fin_eq he
          obtain ⟨h1, h2⟩ := holds_andC hc
          simp only [execOp, resolve, Sem.run_bind, Sem.run_pure, Result.andThen_ok, invoke, builtin, List.map_toArray, List.map_cons, List.map_nil, rd_ok ha hx h1 hq]
          rw [evLen_ok (o := ⟨dst, .alloc 0, type, pos, after, guard⟩) hT hs w]
          rfl
        · cases he
      · cases he
    · rename_i x y ats
      split at he
      · rename_i c1 k1 n1 c2 k2 n2 hx hy
        obtain ⟨rfl, rfl⟩ := fin_eq he
        obtain ⟨h1, h2⟩ := holds_andC hc
        simp [execOp, resolve, invoke, builtin, rd_ok ha hx h1 hq, rd_ok ha hy h2 hq, Builtin.min_, Builtin.min2]
      · cases he
    · rename_i x y ats
      split at he
      · rename_i c1 k1 n1 c2 k2 n2 hx hy
        obtain ⟨rfl, rfl⟩ := fin_eq he
        obtain ⟨h1, h2⟩ := holds_andC hc
        simp [execOp, resolve, invoke, builtin, rd_ok ha hx h1 hq, rd_ok ha hy h2 hq, Builtin.max_, Builtin.max2]
      · cases he
    · cases he
  | _ => cases he
end
end Go.GL
/- The judgements of a walk: a list of operations, a piece of code, a call; and their rules. -/
namespace Go.GL
open Go

abbrev Kont := Exit → Env → List Assn → Prop
def lift (N : Nat) (k : Kont) : Exit → Act → World → Prop := fun e a w => ∃ env L, Agree N env a ∧ Sat L w ∧ k e env L

/-- One operation. -/
structure OP (G : Ctx) (N : Nat) (o : Oper) (env : Env) (L : List Assn) (post : Env → List Assn → Prop) : Prop where
  go : ∀ a w, Agree N env a → Sat L w → o.wp G.P a w (fun a' w' => ∃ env' L', Agree N env' a' ∧ Sat L' w' ∧ post env' L') (fun _ _ _ => False)
instance (G : Ctx) (N : Nat) (o : Oper) (env : Env) (L : List Assn) (post : Env → List Assn → Prop) : CoeFun (OP G N o env L post) (fun _ => ∀ a w, Agree N env a → Sat L w → o.wp G.P a w (fun a' w' => ∃ env' L', Agree N env' a' ∧ Sat L' w' ∧ post env' L') (fun _ _ _ => False)) := ⟨OP.go⟩
/-- A list of operations, in its order. -/
structure WL (G : Ctx) (N : Nat) (ops : Array Oper) (rest : List Oper) (env : Env) (L : List Assn) (k : Kont) : Prop where
  go : ∀ a w, Agree N env a → Sat L w → wpList G.P ops (lift N k) rest a w
instance (G : Ctx) (N : Nat) (ops : Array Oper) (rest : List Oper) (env : Env) (L : List Assn) (k : Kont) : CoeFun (WL G N ops rest env L k) (fun _ => ∀ a w, Agree N env a → Sat L w → wpList G.P ops (lift N k) rest a w) := ⟨WL.go⟩
/-- A piece of code. -/
structure WC (G : Ctx) (N : Nat) (c : Code) (env : Env) (L : List Assn) (k : Kont) : Prop where
  go : ∀ a w, Agree N env a → Sat L w → c.wp G.P (lift N k) a w
instance (G : Ctx) (N : Nat) (c : Code) (env : Env) (L : List Assn) (k : Kont) : CoeFun (WC G N c env L k) (fun _ => ∀ a w, Agree N env a → Sat L w → c.wp G.P (lift N k) a w) := ⟨WC.go⟩

theorem wp_oper_mono {P : Program} {o : Oper} {a : Act} {w : World} {n n' : Act → World → Prop} {Q Q' : Exit → Act → World → Prop} (hn : ∀ a w, n a w → n' a w) (hq : ∀ e a w, Q e a w → Q' e a w)
    (h : o.wp P a w n Q) : o.wp P a w n' Q' := by
  unfold Oper.wp at *
  generalize (execOp a.eval o).run P w = r at *
  cases r with
  | ok x w' =>
    cases x <;> simp only [Oper.upon] at h ⊢ <;> first | (exact hn _ _ h) | (exact h.elim) | skip
    · refine h.mono fun e w'' he => ?_
      cases e with
      | returned v => exact hn _ _ he
      | panicked c => exact hq _ _ _ he
      | outgrown => obtain ⟨a, w, x⟩ := he; exact ⟨a, w, hq _ _ _ x⟩
    · exact h.mono fun v w'' he => hn _ _ he
  | halt x w' =>
    cases x <;> simp only [Oper.upon] at h ⊢ <;> first | exact hq _ _ _ h | exact h.elim

theorem OP.mono {G : Ctx} {N : Nat} {o : Oper} {env : Env} {L : List Assn} {p p' : Env → List Assn → Prop} (h : OP G N o env L p) (f : ∀ e M, p e M → p' e M) : OP G N o env L p' :=
  .mk fun a w ha hs => wp_oper_mono (fun _ _ ⟨e, M, x, y, z⟩ => ⟨e, M, x, y, f _ _ z⟩) (fun _ _ _ h => h) (h a w ha hs)
theorem OP.imp {G : Ctx} {N : Nat} {o : Oper} {env : Env} {L M : List Assn} {p : Env → List Assn → Prop} (i : Imp L M) (h : OP G N o env M p) : OP G N o env L p :=
  .mk fun a w ha hs => h a w ha (i.sat hs)
theorem WC.imp {G : Ctx} {N : Nat} {c : Code} {env : Env} {L M : List Assn} {k : Kont} (i : Imp L M) (h : WC G N c env M k) : WC G N c env L k :=
  .mk fun a w ha hs => h a w ha (i.sat hs)
theorem WL.imp {G : Ctx} {N : Nat} {ops : Array Oper} {rest : List Oper} {env : Env} {L M : List Assn} {k : Kont} (i : Imp L M) (h : WL G N ops rest env M k) : WL G N ops rest env L k :=
  .mk fun a w ha hs => h a w ha (i.sat hs)
theorem WC.sub {G : Ctx} {N : Nat} {c : Code} {env env' : Env} {L : List Assn} {k : Kont} (s : SubEnv env' env) (h : WC G N c env' L k) : WC G N c env L k :=
  .mk fun a w ha hs => h a w (ha.sub s) hs
theorem WL.sub {G : Ctx} {N : Nat} {ops : Array Oper} {rest : List Oper} {env env' : Env} {L : List Assn} {k : Kont} (s : SubEnv env' env) (h : WL G N ops rest env' L k) : WL G N ops rest env L k :=
  .mk fun a w ha hs => h a w (ha.sub s) hs
theorem lift_mono {N : Nat} {k k' : Kont} (f : ∀ e env L, k e env L → k' e env L) (e : Exit) (a : Act) (w : World) (h : lift N k e a w) : lift N k' e a w :=
  let ⟨env, L, x, y, z⟩ := h
  ⟨env, L, x, y, f _ _ _ z⟩
theorem WC.mono {G : Ctx} {N : Nat} {c : Code} {env : Env} {L : List Assn} {k k' : Kont} (h : WC G N c env L k) (f : ∀ e env L, k e env L → k' e env L) : WC G N c env L k' :=
  .mk fun a w ha hs => Code.wp_mono (lift_mono f) (h a w ha hs)

section
variable {G : Ctx} {N : Nat} {env : Env} {L : List Assn} {k : Kont} {ops : Array Oper} {rest : List Oper} {o : Oper}

/-! ### code -/
def seqK (G : Ctx) (N : Nat) (y : Code) (k : Kont) : Kont
  | .normal, env, L => WC G N y env L k
  | e, env, L => k e env L
theorem WC.seq {x y : Code} (h : WC G N x env L (seqK G N y k)) : WC G N (.seq x y) env L k := .mk fun a w ha hs =>
  wp_seq (Code.wp_mono (fun e a w ⟨env, L, x, s, z⟩ => by
    cases e with
    | normal => exact WC.go z a w x s
    | _ => exact ⟨env, L, x, s, z⟩) (h a w ha hs))
theorem seqK.go {y : Code} (h : WC G N y env L k) : seqK G N y k .normal env L := h
theorem WC.skip (h : k .normal env L) : WC G N .skip env L k := .mk fun _ _ ha hs => wp_skip ⟨env, L, ha, hs, h⟩
theorem WC.label {l : Nat} (h : k .normal env L) : WC G N (.label l) env L k := .mk fun _ _ ha hs => wp_label ⟨env, L, ha, hs, h⟩
theorem WC.ret (h : k .ret env L) : WC G N .ret env L k := .mk fun _ _ ha hs => wp_ret ⟨env, L, ha, hs, h⟩
theorem WC.exit {id : Nat} (h : k (.exit id) env L) : WC G N (.exit id) env L k := .mk fun _ _ ha hs => wp_exit ⟨env, L, ha, hs, h⟩
def blockK (id : Nat) (k : Kont) : Kont
  | .exit i, env, L => match Nat.beq i id with
    | true => k .normal env L
    | false => k (.exit i) env L
  | e, env, L => k e env L
theorem WC.block {id : Nat} {c : Code} (h : WC G N c env L (blockK id k)) : WC G N (.block id c) env L k := .mk fun a w ha hs =>
  wp_block (Code.wp_mono (fun e a w ⟨env, L, x, s, z⟩ => by
    cases e with
    | exit i =>
      simp only [blockK] at z
      simp only [Exit.inBlock]
      split at z
      · rename_i hb; rw [if_pos (Nat.eq_of_beq_eq_true hb)]; exact ⟨env, L, x, s, z⟩
      · rename_i hb; rw [if_neg (Nat.ne_of_beq_eq_false hb)]; exact ⟨env, L, x, s, z⟩
    | _ => exact ⟨env, L, x, s, z⟩) (h a w ha hs))
theorem WC.cond {c : Operand} {x y : Code} {b : Bool} (hc : rd none env c = some (none, .bool b)) (ht : b = true → WC G N x env L k) (hf : b = false → WC G N y env L k) : WC G N (.cond c x y) env L k := .mk fun a w ha hs =>
  wp_cond_split (rd_ok ha hc trivial trivial) (fun e => ht e a w ha hs) (fun e => hf e a w ha hs)
def loopK (next : Env → List Assn → Prop) (k : Kont) : Kont
  | .normal, env, L => next env L
  | e, env, L => k e env L
/-- A loop: what holds of the state at each round's head is told by an index. -/
theorem WC.loop {c : Code} {σ : Type} (I : σ → Prop) (E : σ → Env) (M : σ → List Assn) (μ : σ → Nat) (s0 : σ) (h0 : I s0) (hE : SubEnv (E s0) env) (hL : Imp L (M s0))
    (round : ∀ s, I s → WC G N c (E s) (M s) (loopK (fun env' L' => ∃ s', I s' ∧ μ s' < μ s ∧ SubEnv (E s') env' ∧ Imp L' (M s')) k)) : WC G N (.loop c) env L k := .mk fun a w ha hs =>
  wp_loop_ghost (fun n a w => ∃ s, μ s = n ∧ I s ∧ Agree N (E s) a ∧ Sat (M s) w) (μ s0) ⟨s0, rfl, h0, ha.sub hE, hL.sat hs⟩ (fun n a w ⟨s, hn, hI, hx, hy⟩ =>
    Code.wp_mono (fun e a w ⟨env, L, x, y, z⟩ => by
      cases e with
      | normal => obtain ⟨s', h1, h2, h3, h4⟩ := z; exact ⟨μ s', hn ▸ h2, s', rfl, h1, x.sub h3, h4.sat y⟩
      | _ => exact ⟨env, L, x, y, z⟩) (round s hI a w hx hy))

/-! ### regions -/
theorem WC.region {id : Nat} {l : List Oper} (h : WL G N l.toArray l env L k) : WC G N (.region id l.toArray false) env L k := .mk fun a w ha hs => wp_region_lit (h a w ha hs)
theorem WL.nil (h : k .normal env L) : WL G N ops [] env L k := .mk fun _ _ ha hs => ⟨env, L, ha, hs, h⟩
theorem WL.step (hg : o.guard = none) (h : OP G N o env L (fun e M => WL G N ops rest e M k)) : WL G N ops (o :: rest) env L k := .mk fun a w ha hs => by
  unfold wpList
  rw [if_pos (by simp [Region.wanted, hg])]
  exact .inl (wp_oper_mono (fun a w ⟨e, M, x, y, z⟩ => z a w x y) (fun _ _ _ h => h.elim) (h a w ha hs))
/-- What a guard's temporary tells: the condition under which the operation is carried out. -/
def gdOf (env : Env) (t : Nat) (want : Bool) : Option Bool :=
  match want, Env.get env t with
  | true, some (.val (.bool g)) => some g
  | false, some (.val (.bool g)) => some (!g)
  | true, some (.grd p (.bool g)) => some (p && g)
  | false, some (.grd p (.bool g)) => some (p && !g)
  | _, _ => none
theorem gdOf_ok {a : Act} (ha : Agree N env a) {t : Nat} {want q : Bool} (h : gdOf env t want = some q) {j : Nat} {oj : Oper} (hj : ops[j]? = some oj) (hd : oj.dst = some t) (hg : o.guard = some (j, want)) :
    Region.wanted o (yielded ops a.tmps) = q := by
  simp only [Region.wanted, hg, yielded, hj, hd, Option.bind_some]
  unfold gdOf at h
  split at h
  · rename_i g hs
    cases h
    have := ha.at_ _ _ hs
    simp only [Slot.fits] at this
    rw [this]
    cases q <;> rfl
  · rename_i g hs
    cases h
    have := ha.at_ _ _ hs
    simp only [Slot.fits] at this
    rw [this]
    cases g <;> rfl
  · rename_i p g hs
    cases h
    have := ha.at_ _ _ hs
    simp only [Slot.fits] at this
    rw [this]
    cases p <;> cases g <;> rfl
  · rename_i p g hs
    cases h
    have := ha.at_ _ _ hs
    simp only [Slot.fits] at this
    rw [this]
    cases p <;> cases g <;> rfl
  · cases h
theorem WL.guarded {j t d : Nat} {want q nw : Bool} {oj : Oper} {c : Option Prop} {v : Value} (hg : o.guard = some (j, want)) (hj : ops[j]? = some oj) (ht : oj.dst = some t) (hq : gdOf env t want = some q)
    (hd : o.dst = some d) (hN : Nat.blt d N = true) (he : ev G.T nw (some q) env o.op = some (c, v)) (hc : Holds c) (h : WL G N ops rest ((d, .grd q v) :: env) L k) : WL G N ops (o :: rest) env L k := .mk fun a w ha hs => by
  have hw := gdOf_ok ha hq hj ht hg
  unfold wpList
  rw [hw]
  cases q with
  | true =>
    rw [if_pos rfl]
    refine .inl ?_
    unfold Oper.wp
    rw [ev_ok G.ok he hc rfl ha w]
    simp only [Oper.upon, hd]
    exact h _ w (ha.grd hN rfl) hs
  | false =>
    rw [if_neg (by simp), hd]
    exact h _ w (ha.grd hN rfl) hs
theorem WL.guardSplit {j t : Nat} {want q : Bool} {oj : Oper} (hg : o.guard = some (j, want)) (hj : ops[j]? = some oj) (ht : oj.dst = some t) (hq : gdOf env t want = some q) {d : Nat} (hd : o.dst = some d) (hN : Nat.blt d N = true)
    (h1 : q = true → OP G N o env L (fun e M => WL G N ops rest e M k)) (h2 : q = false → WL G N ops rest ((d, .val undef) :: env) L k) : WL G N ops (o :: rest) env L k := .mk fun a w ha hs => by
  have hw := gdOf_ok ha hq hj ht hg
  unfold wpList
  rw [hw]
  cases q with
  | true =>
    rw [if_pos rfl]
    exact .inl (wp_oper_mono (fun a w ⟨e, M, x, y, z⟩ => z a w x y) (fun _ _ _ h => h.elim) (h1 rfl a w ha hs))
  | false =>
    rw [if_neg (by simp), hd]
    exact h2 rfl _ w (ha.put hN _) hs

/-! ### operations -/
variable {post : Env → List Assn → Prop} {d : Nat}
theorem OP.run {v : Value} (hr : ∀ a w, Agree N env a → Sat L w → (execOp a.eval o).run G.P w = .ok (.value v) w) (hd : o.dst = some d) (hN : Nat.blt d N = true) (h : post ((d, .val v) :: env) L) : OP G N o env L post := .mk fun a w ha hs => by
  unfold Oper.wp
  rw [hr a w ha hs]
  simp only [Oper.upon, hd]
  exact ⟨_, L, ha.put hN v, hs, h⟩
theorem OP.pure {nw : Bool} {c : Option Prop} {v : Value} (he : ev G.T nw none env o.op = some (c, v)) (hc : Holds c) (hd : o.dst = some d) (hN : Nat.blt d N = true) (h : post ((d, .val v) :: env) L) : OP G N o env L post :=
  .run (fun _ w ha _ => ev_ok G.ok he hc trivial ha w) hd hN h
theorem OP.pureEq {nw : Bool} {c : Option Prop} {v v' : Value} (he : ev G.T nw none env o.op = some (c, v)) (hc : Holds c) (hv : v = v') (hd : o.dst = some d) (hN : Nat.blt d N = true) (h : post ((d, .val v') :: env) L) : OP G N o env L post :=
  .pure he hc hd hN (hv ▸ h)

theorem rd_plain {x : Operand} {v : Value} (h : rd none env x = some (none, v)) {a : Act} (ha : Agree N env a) : a.eval x = v := rd_ok ha h trivial trivial
/-- a load of one cell -/
theorem OP.load1 {t : TypeId} {x : Operand} {b off : Nat} {ti : TI} {v : Value} (ho : o.op = .load t x) (hx : rd none env x = some (none, .pointer (some ⟨b, off, none⟩))) (ht : G.T.find t = some ti) (hg : ti.agg = false)
    (hv : Ent L (cellAt b off v)) (hd : o.dst = some d) (hN : Nat.blt d N = true) (h : post ((d, .val v) :: env) L) : OP G N o env L post :=
  .run (fun a w ha hs => by
    have e := Tab.find_ok G.ok ht
    rw [execOp, ho]
    refine val_run ?_
    have hc := cell_of_cellAt (hv _ hs)
    simp [Instr.loadAt, rd_plain hx ha, Instr.sureAddr, loadVar, run_isAgg e, hg, hc]) hd hN h

/-! ### memory -/
/-- Cells side by side. -/
def cellsAt (b off : Nat) (l : List Value) : Assn := fun h => ∃ (c : Array Value) (T : TypeId) (fr : Nat × Nat), h (b + 1) = some (.obj (.cells c T fr)) ∧ ∀ i v, l[i]? = some v → c[off + i]? = some v
theorem up_cellsAt (b off : Nat) (l : List Value) : Up (cellsAt b off l) := fun _ _ le ⟨c, T, fr, e, f⟩ => ⟨c, T, fr, le _ _ e, f⟩
theorem Ent.cells {b : Nat} {c : List Value} {T : TypeId} {off n : Nat} {l : List Value} (m : GL.blk b c T ∈ L) (e : cutL c off n = some l) : Ent L (cellsAt b off l) :=
  Ent.mem m (up_blk b c T) fun h ⟨fr, hb, _⟩ => ⟨_, T, fr, hb, fun i v hi => by
    obtain ⟨h1, h2⟩ := cutL_eq e
    rw [h1] at hi
    have := List.getElem?_take (l := c.drop off) (i := n) (j := i)
    rw [this] at hi
    split at hi
    · simpa using hi
    · cases hi⟩
theorem cellsAt_get {w : World} {b off : Nat} {l : List Value} (h : cellsAt b off l (hpOf w)) {i : Nat} {v : Value} (hi : l[i]? = some v) : w.cell? ⟨b, off + i, none⟩ = some v := by
  obtain ⟨c, T, fr, e, f⟩ := h
  exact cell_of_cellAt ⟨c, T, fr, e, f i v hi⟩
theorem run_cells {P : Program} {w : World} {b off : Nat} {l : List Value} (h : cellsAt b off l (hpOf w)) : ∀ (n i : Nat) (acc : Array Value), i + n = l.length →
    (loadCellsFrom ⟨b, off, none⟩ i n acc).run P w = .ok (acc ++ (l.drop i).toArray) w
  | 0, i, acc, hn => by
    have : l.drop i = [] := List.drop_eq_nil_of_le (by omega)
    simp [loadCellsFrom, this]
  | n + 1, i, acc, hn => by
    have hi : i < l.length := by omega
    have hc := cellsAt_get h (List.getElem?_eq_getElem hi)
    simp only [loadCellsFrom, Sem.run_bind, addr_add, run_load, hc, Result.andThen_ok]
    rw [run_cells h n (i + 1) _ (by omega)]
    congr 1
    rw [List.drop_eq_getElem_cons hi]
    simp
theorem OP.loadA {t : TypeId} {x : Operand} {b off : Nat} {ti : TI} {l : List Value} (ho : o.op = .load t x) (hx : rd none env x = some (none, .pointer (some ⟨b, off, none⟩))) (ht : G.T.find t = some ti) (hg : ti.agg = true)
    (hv : Ent L (cellsAt b off l)) (hl : l.length = ti.size) (hd : o.dst = some d) (hN : Nat.blt d N = true) (h : post ((d, .val (.agg l.toArray)) :: env) L) : OP G N o env L post :=
  .run (fun a w ha hs => by
    have e := Tab.find_ok G.ok ht
    rw [execOp, ho]
    refine val_run ?_
    have hc := run_cells (P := G.P) (hv _ hs) l.length 0 #[] (by omega)
    simp only [List.drop_zero, Array.empty_append] at hc
    simp [Instr.loadAt, rd_plain hx ha, Instr.sureAddr, loadVar, run_isAgg e, hg, run_size e, loadCells, ← hl, hc]) hd hN h

/-- In block 'b', from 'off' on, stand these n cells. -/
inductive HasCut : List Assn → Nat → Nat → Nat → List Value → Prop
  | here {b off n : Nat} {l c : List Value} {T : TypeId} {L : List Assn} : cutL c off n = some l → HasCut (blk b c T :: L) b off n l
  | there {A : Assn} {L : List Assn} {b off n : Nat} {l : List Value} : HasCut L b off n l → HasCut (A :: L) b off n l
theorem HasCut.ent {L : List Assn} {b off n : Nat} {l : List Value} (h : HasCut L b off n l) : Ent L (cellsAt b off l) ∧ l.length = n := by
  induction h with
  | here h => exact ⟨Ent.cells (List.Mem.head _) h, (cutL_eq h).2⟩
  | there _ ih => exact ⟨Ent.tail ih.1, ih.2⟩
inductive HasNth : List Assn → Nat → Nat → Value → Prop
  | here {b off : Nat} {v : Value} {c : List Value} {T : TypeId} {L : List Assn} : nthL c off = some v → HasNth (blk b c T :: L) b off v
  | there {A : Assn} {L : List Assn} {b off : Nat} {v : Value} : HasNth L b off v → HasNth (A :: L) b off v
theorem HasNth.ent {L : List Assn} {b off : Nat} {v : Value} (h : HasNth L b off v) : Ent L (cellAt b off v) := by
  induction h with
  | here h => exact Ent.blk (List.Mem.head _) (by rw [← nthL_eq]; exact h)
  | there _ ih => exact Ent.tail ih
def sizeL : TI → Option Nat
  | ⟨_, s, _, _, _, _⟩ => some s
theorem sizeL_eq {t : TI} {z : Nat} (h : sizeL t = some z) : t.size = z := by cases t; simp only [sizeL, Option.some.injEq] at h; exact h
theorem OP.loadB {t : TypeId} {x : Operand} {b off n : Nat} {ti : TI} {l : List Value} (ho : o.op = .load t x) (hx : rd none env x = some (none, .pointer (some ⟨b, off, none⟩))) (ht : G.T.find t = some ti) (hg : ti.agg = true) (hn : sizeL ti = some n)
    (hv : HasCut L b off n l) (hd : o.dst = some d) (hN : Nat.blt d N = true) (h : post ((d, .val (.agg l.toArray)) :: env) L) : OP G N o env L post :=
  .loadA ho hx ht hg hv.ent.1 (hv.ent.2.trans (sizeL_eq hn).symm) hd hN h
theorem OP.loadN {t : TypeId} {x : Operand} {b off : Nat} {ti : TI} {v : Value} (ho : o.op = .load t x) (hx : rd none env x = some (none, .pointer (some ⟨b, off, none⟩))) (ht : G.T.find t = some ti) (hg : ti.agg = false)
    (hv : HasNth L b off v) (hd : o.dst = some d) (hN : Nat.blt d N = true) (h : post ((d, .val v) :: env) L) : OP G N o env L post :=
  .load1 ho hx ht hg hv.ent hd hN h
/-- is it one cell's value -/
def one : Value → Bool
  | .agg _ => false
  | .tuple _ => false
  | _ => true
def setOne : List Value → Nat → Value → Option (List Value)
  | [], _, _ => none
  | _ :: r, 0, v => some (v :: r)
  | x :: r, n + 1, v => match setOne r n v with
    | some r' => some (x :: r')
    | none => none
theorem setOne_eq {c : List Value} {n : Nat} {v : Value} {c' : List Value} (h : setOne c n v = some c') : c' = c.set n v ∧ n < c.length := by
  induction c generalizing n c' with
  | nil => cases h
  | cons x r ih =>
    cases n with
    | zero => cases h; simp
    | succ n =>
      simp only [setOne] at h
      split at h
      · rename_i r' hr; cases h; obtain ⟨h1, h2⟩ := ih hr; simp [h1, h2]
      · cases h
/-- cells side by side are written -/
def setMany : List Value → Nat → List Value → Option (List Value)
  | c, _, [] => some c
  | c, n, v :: vs => match setOne c n v with
    | some c' => setMany c' (n + 1) vs
    | none => none
theorem cell_of_blk {w : World} {b : Nat} {c : List Value} {T : TypeId} {n : Nat} (hs : Sat L w) (m : blk b c T ∈ L) (hn : n < c.length) : w.cell? ⟨b, n, none⟩ = some c[n] :=
  cell_of_cellAt ((Ent.blk m (List.getElem?_eq_getElem hn)) _ hs)
theorem one_cell {v : Value} (h : one v = true) : v.oneCell' = true := by cases v <;> first | rfl | cases h
theorem one_cells {v : Value} (h : one v = true) : v.cells = #[v] := by cases v <;> first | rfl | cases h
theorem Upd.inv {L M : List Assn} {b : Nat} {c c' : List Value} {T : TypeId} (c2 : List Value) (u : Upd L b c T c' M) : ∃ M2, Upd L b c T c2 M2 ∧ Upd M2 b c2 T c' M := by
  induction u with
  | here b c c' T L => exact ⟨_, .here _ _ _ _ _, .here _ _ _ _ _⟩
  | there _ ih => obtain ⟨M2, h1, h2⟩ := ih; exact ⟨_, .there h1, .there h2⟩
theorem Upd.same {L M : List Assn} {b : Nat} {c : List Value} {T : TypeId} (u : Upd L b c T c M) : L = M := by
  generalize hc : c = c' at u
  have key : ∀ {L M : List Assn} {b : Nat} {c c' : List Value} {T : TypeId}, Upd L b c T c' M → c = c' → L = M := by
    intro L M b c c' T u
    induction u with
    | here b c c' T L => intro e; rw [e]
    | there _ ih => intro e; rw [ih e]
  subst hc
  exact key u rfl
theorem run_stores {P : Program} {b : Nat} {T : TypeId} : ∀ (vs : List Value) (off i : Nat) (c c' : List Value) (L M : List Assn) (w : World), (∀ v ∈ vs, one v = true) → setMany c (off + i) vs = some c' → Upd L b c T c' M → Sat L w →
    ∃ w', (storeCells ⟨b, off, none⟩ vs i).run P w = .ok () w' ∧ Sat M w'
  | [], off, i, c, c', L, M, w, _, hs, hu, s => by
    simp only [setMany, Option.some.injEq] at hs
    subst hs
    exact ⟨w, by simp [storeCells], hu.same ▸ s⟩
  | v :: vs, off, i, c, c', L, M, w, h1, hs, hu, s => by
    simp only [setMany] at hs
    split at hs
    · rename_i c2 hc2
      obtain ⟨e, hlt⟩ := setOne_eq hc2
      obtain ⟨M2, u1, u2⟩ := hu.inv c2
      have hcell := cell_of_blk s u1.has hlt
      have hfr := Sat.notFrozen s u1.has hlt
      have s2 : Sat M2 (w.setCell ⟨b, off + i, none⟩ v) := Sat.set (by rw [← e]; exact u1) s
      obtain ⟨w', r, s3⟩ := run_stores vs off (i + 1) c2 c' M2 M _ (fun x hx => h1 x (List.mem_cons_of_mem _ hx)) (by rw [← Nat.add_assoc]; exact hs) u2 s2
      refine ⟨w', ?_, s3⟩
      simp only [storeCells, Sem.run_bind, addr_add, run_store _ _ _ _ _ (one_cell (h1 v List.mem_cons_self)), hcell, hfr, Result.andThen_ok, Bool.false_eq_true, if_false]
      exact r
    · cases hs

def cellsOf (v : Value) : Option (List Value) := match v with
  | .agg a => some a.toList
  | .tuple _ => none
  | v => some [v]
theorem cellsOf_eq {v : Value} {l : List Value} (h : cellsOf v = some l) : v.cells = l.toArray := by
  cases v <;> simp only [cellsOf, Option.some.injEq] at h <;> first | (cases h; done) | (subst h; simp [Value.cells])
def allOne : List Value → Bool
  | [] => true
  | v :: r => match one v with
    | true => allOne r
    | false => false
theorem allOne_mem {l : List Value} (h : allOne l = true) : ∀ v ∈ l, one v = true := by
  induction l with
  | nil => intro v hv; cases hv
  | cons x r ih =>
    simp only [allOne] at h
    split at h
    · rename_i hx; intro v hv; rcases List.mem_cons.1 hv with rfl | hv
      · exact hx
      · exact ih h v hv
    · cases h
/-- Cells of block 'b', from 'off' on, are written. -/
inductive UpdM : List Assn → Nat → Nat → List Value → List Assn → Prop
  | here {b off : Nat} {vs c c' : List Value} {T : TypeId} {L : List Assn} : setMany c off vs = some c' → UpdM (blk b c T :: L) b off vs (blk b c' T :: L)
  | there {A : Assn} {L M : List Assn} {b off : Nat} {vs : List Value} : UpdM L b off vs M → UpdM (A :: L) b off vs (A :: M)
theorem UpdM.upd {L M : List Assn} {b off : Nat} {vs : List Value} (u : UpdM L b off vs M) : ∃ c c' T, setMany c off vs = some c' ∧ Upd L b c T c' M := by
  induction u with
  | here h => exact ⟨_, _, _, h, .here _ _ _ _ _⟩
  | there _ ih => obtain ⟨c, c', T, h, u⟩ := ih; exact ⟨c, c', T, h, .there u⟩
theorem OP.store {t : TypeId} {x y : Operand} {b off : Nat} {ti : TI} {v : Value} {vs : List Value} {M : List Assn} (ho : o.op = .store t x y) (hx : rd none env x = some (none, .pointer (some ⟨b, off, none⟩)))
    (hy : rd none env y = some (none, v)) (ht : G.T.find t = some ti) (hv : cellsOf v = some vs) (h1 : allOne vs = true) (hl : vs.length = ti.size) (hu : UpdM L b off vs M) (hd : o.dst = none) (h : post env M) : OP G N o env L post := .mk fun a w ha hs => by
  obtain ⟨c, c', T, hc, hu⟩ := hu.upd
  obtain ⟨w', r, s⟩ := run_stores (P := G.P) vs off 0 c c' L M w (allOne_mem h1) hc hu hs
  have e := Tab.find_ok G.ok ht
  unfold Oper.wp
  have : (execOp a.eval o).run G.P w = .ok .skip w' := by
    rw [execOp, ho]
    simp [Instr.storeAt, rd_plain hx ha, rd_plain hy ha, Instr.sureAddr, storeVar, cellsOf_eq hv, run_size e, hl, r]
  rw [this]
  simp only [Oper.upon, hd]
  exact ⟨env, M, ha, s, h⟩

theorem OP.new {c : List Value} {T : TypeId} (hr : ∀ a w, Agree N env a → Sat L w → (execOp a.eval o).run G.P w = .ok (.value (.pointer (some ⟨w.heap.size, 0, none⟩))) { w with heap := w.heap.push (.cells c.toArray T) })
    (hd : o.dst = some d) (hN : Nat.blt d N = true) (h : ∀ b, post ((d, .val (.pointer (some ⟨b, 0, none⟩))) :: env) (blk b c T :: L)) : OP G N o env L post := .mk fun a w ha hs => by
  unfold Oper.wp
  rw [hr a w ha hs]
  simp only [Oper.upon, hd]
  exact ⟨_, _, ha.put hN _, hs.new c T, h _⟩
def zeroL : TI → Option (List Value)
  | ⟨_, _, _, z, _, _⟩ => some z
theorem zeroL_eq {t : TI} {z : List Value} (h : zeroL t = some z) : t.zero = z := by cases t; simp only [zeroL, Option.some.injEq] at h; exact h
theorem OP.alloc {t : TypeId} {ti : TI} {z : List Value} (ho : o.op = .alloc t) (ht : G.T.find t = some ti) (hz : zeroL ti = some z) (hd : o.dst = some d) (hN : Nat.blt d N = true) (h : ∀ b, post ((d, .val (.pointer (some ⟨b, 0, none⟩))) :: env) (blk b z t :: L)) : OP G N o env L post :=
  .new (fun a w ha hs => by
    have e := Tab.find_ok G.ok ht
    have hz := zeroL_eq hz ▸ e.zcells
    rw [execOp, ho]
    simp [Instr.alloc, run_zero e, newVar, newRow, hz]) hd hN h
theorem OP.box {t : TypeId} {x : Operand} {v : Value} {vs : List Value} (ho : o.op = .box t x) (hx : rd none env x = some (none, v)) (hv : cellsOf v = some vs) (hd : o.dst = some d) (hN : Nat.blt d N = true)
    (h : ∀ b, post ((d, .val (.pointer (some ⟨b, 0, none⟩))) :: env) (blk b vs t :: L)) : OP G N o env L post :=
  .new (fun a w ha hs => by
    rw [execOp, ho]
    simp [Instr.box, rd_plain hx ha, newVar, newRow, cellsOf_eq hv]) hd hN h

/-! ### calls -/
/-- There is such a function, with a body. -/
structure Enters (P : Program) (f : FuncId) : Prop where
  ex : ∃ fn c, P.funcs[f]? = some fn ∧ (fn.name == "runtime.NumGoroutine") = false ∧ fn.body = some c
/-- What a call does: from memory that meets 'pre' (and whatever else) to a value and memory that meet 'post' (and the rest is as it was). -/
structure Triple (G : Ctx) (f : FuncId) (args : List Value) (pre : List Assn) (post : Value → List Assn → Prop) : Prop where
  enters : Enters G.P f
  calls : ∀ F w, Sat (pre ++ F) w → Calls G.P f args.toArray w (fun e w' => ∃ v M, e = .returned v ∧ post v M ∧ Sat (M ++ F) w')
/-- A call that only reads: where 'R' holds it hands back 'v', and changes nothing that was there. -/
structure RO (G : Ctx) (f : FuncId) (args : List Value) (R : Assn) (v : Value) : Prop where
  enters : Enters G.P f
  calls : ∀ w, R (hpOf w) → Calls G.P f args.toArray w (fun e w' => e = .returned v ∧ Ext w w')
theorem RO.triple {f : FuncId} {args : List Value} {R : Assn} {v : Value} (h : RO G f args R v) {M : List Assn} (he : Ent M R) : Triple G f args M (fun v' M' => v' = v ∧ M' = M) :=
  ⟨h.enters, fun _ w hs => (h.calls w (he _ (stars_append_left hs))).mono fun _ _ ⟨e, x⟩ => ⟨v, M, e, ⟨rfl, rfl⟩, hs.ext x⟩⟩
theorem Triple.mono {f : FuncId} {args : List Value} {pre : List Assn} {p p' : Value → List Assn → Prop} (h : Triple G f args pre p) (g : ∀ v M, p v M → ∃ M', p' v M' ∧ Imp M M') : Triple G f args pre p' :=
  ⟨h.enters, fun F w hs => (h.calls F w hs).mono fun _ _ ⟨v, M, e, x, s⟩ => let ⟨M', y, i⟩ := g v M x; ⟨v, M', e, y, (i.app F).sat s⟩⟩
theorem Triple.pre {f : FuncId} {args : List Value} {pre pre' : List Assn} {p : Value → List Assn → Prop} (h : Triple G f args pre p) (i : Imp pre' pre) : Triple G f args pre' p :=
  ⟨h.enters, fun F w hs => h.calls F w ((i.app F).sat hs)⟩

def rdAll (env : Env) : List Operand → Option (List Value)
  | [] => some []
  | x :: r => match rd none env x with
    | some (none, v) => match rdAll env r with
      | some l => some (v :: l)
      | none => none
    | _ => none
theorem rdAll_ok {a : Act} (ha : Agree N env a) : ∀ {xs : List Operand} {vs : List Value}, rdAll env xs = some vs → xs.map a.eval = vs
  | [], vs, h => by cases h; rfl
  | x :: r, vs, h => by
    simp only [rdAll] at h
    split at h
    · rename_i v hv
      split at h
      · rename_i l hl; cases h; rw [List.map_cons, rd_plain hv ha, rdAll_ok ha hl]
      · cases h
    · cases h
theorem run_call {P : Program} {f : FuncId} {xs : List Operand} {ats : Array TypeId} {a : Act} {vs : List Value} (he : Enters P f) (hv : xs.map a.eval = vs) (dst : Option Tmp) (ty : TypeId) (pos : String) (after : Array Edge) (guard : Option (Nat × Bool)) (w : World) :
    (execOp a.eval ⟨dst, .call ⟨.value (.func f), xs.toArray, ats⟩, ty, pos, after, guard⟩).run P w = .ok (.enter f vs.toArray) w := by
  obtain ⟨fn, c, h1, h2, h3⟩ := he.ex
  simp only [execOp, resolve, Act.eval, Deferred.ofValue, Sem.run_bind, Sem.run_pure, Result.andThen_ok, invoke, callFunc, run_program, h1]
  simp [h2, h3, ← hv]
theorem OP.call {f : FuncId} {xs : List Operand} {ats : Array TypeId} {vs : List Value} {pre F : List Assn} {p : Value → List Assn → Prop} (ho : o.op = .call ⟨.value (.func f), xs.toArray, ats⟩) (hv : rdAll env xs = some vs) (ht : Triple G f vs pre p) (hi : Imp L (pre ++ F))
    (hd : o.dst = some d) (hN : Nat.blt d N = true) (h : ∀ v M, p v M → post ((d, .val v) :: env) (M ++ F)) : OP G N o env L post := .mk fun a w ha hs => by
  obtain ⟨dst, op, type, pos, after, guard⟩ := o
  simp only at ho hd
  subst ho hd
  unfold Oper.wp
  rw [run_call ht.enters (rdAll_ok ha hv)]
  simp only [Oper.upon]
  refine (ht.calls F w (hi.sat hs)).mono ?_
  rintro e w' ⟨v, M, rfl, hp, s⟩
  exact ⟨_, _, ha.put hN v, s, h v M hp⟩
theorem OP.callRO {f : FuncId} {xs : List Operand} {ats : Array TypeId} {vs : List Value} {R : Assn} {v : Value} (ho : o.op = .call ⟨.value (.func f), xs.toArray, ats⟩) (hv : rdAll env xs = some vs) (ht : RO G f vs R v) (he : Ent L R)
    (hd : o.dst = some d) (hN : Nat.blt d N = true) (h : post ((d, .val v) :: env) L) : OP G N o env L post :=
  .call (F := []) ho hv (ht.triple he) (by rw [List.append_nil]; exact Imp.refl _) hd hN (fun v' M ⟨e1, e2⟩ => by rw [List.append_nil, e1, e2]; exact h)

/-! ### a function -/
/-- What is handed back. -/
def RetV (G : Ctx) : List ResultVar → Env → List Assn → List Value → Prop
  | [], _, _, vs => vs = []
  | .tmp t :: r, env, L, vs => ∃ v w, vs = v :: w ∧ Env.get env t = some (.val v) ∧ RetV G r env L w
  | .cell t ty :: r, env, L, vs => ∃ b off v w ti, vs = v :: w ∧ Env.get env t = some (.val (.pointer (some ⟨b, off, none⟩))) ∧ G.T.find ty = some ti ∧
      ((ti.agg = false ∧ Ent L (cellAt b off v)) ∨ (ti.agg = true ∧ ∃ l, v = .agg l.toArray ∧ l.length = ti.size ∧ Ent L (cellsAt b off l))) ∧ RetV G r env L w
def packed : List Value → Value
  | [v] => v
  | vs => .tuple vs.toArray
def retK (G : Ctx) (rs : List ResultVar) (p : Value → List Assn → Prop) : Kont
  | .normal, env, L => ∃ vs, RetV G rs env L vs ∧ p (packed vs) L
  | .ret, env, L => ∃ vs, RetV G rs env L vs ∧ p (packed vs) L
  | _, _, _ => False
def rv (tmps : Array Value) : ResultVar → Sem Value
  | .tmp t => Pure.pure (tmps.getD t undef)
  | .cell a t => do loadVar t (← asAddr (tmps.getD a undef))
theorem results_eq (fn : Func) (tmps : Array Value) : results fn tmps = (do let vs ← fn.results.mapM (rv tmps); Pure.pure (if h : vs.size = 1 then vs[0] else .tuple vs)) := by
  have : (fun | .tmp t => Pure.pure (tmps.getD t undef) | .cell a t => do loadVar t (← asAddr (tmps.getD a undef)) : ResultVar → Sem Value) = rv tmps := by
    funext r
    cases r <;> rfl
  unfold results
  rw [← this]
  rfl
theorem run_rets {a : Act} {w : World} (ha : Agree N env a) (hs : Sat L w) : ∀ {rs : List ResultVar} {vs : List Value}, RetV G rs env L vs → (rs.mapM (rv a.tmps)).run G.P w = Result.ok vs w
  | [], vs, h => by cases h; simp
  | .tmp t :: r, vs, ⟨v, w', e, hv, h⟩ => by
    have := ha.at_ _ _ hv
    simp only [Slot.fits] at this
    subst e
    simp [rv, Array.getD_eq_getD_getElem?, this, run_rets ha hs h]
  | .cell t ty :: r, vs, ⟨b, off, v, w', ti, e, hv, ht, hc, h⟩ => by
    have := ha.at_ _ _ hv
    simp only [Slot.fits] at this
    subst e
    have e := Tab.find_ok G.ok ht
    have key : (loadVar ty ⟨b, off, none⟩).run G.P w = .ok v w := by
      rcases hc with ⟨hg, hc⟩ | ⟨hg, l, rfl, hl, hc⟩
      · have hc := cell_of_cellAt (hc _ hs)
        simp [loadVar, run_isAgg e, hg, hc]
      · have hc := run_cells (P := G.P) (hc _ hs) l.length 0 #[] (by omega)
        simp only [List.drop_zero, Array.empty_append] at hc
        simp [loadVar, run_isAgg e, hg, run_size e, loadCells, ← hl, hc]
    simp [rv, Array.getD_eq_getD_getElem?, this, asAddr, key, run_rets ha hs h]
theorem run_results {a : Act} {w : World} (ha : Agree N env a) (hs : Sat L w) {fn : Func} {rs : List ResultVar} (hr : fn.results = rs.toArray) {vs : List Value} (h : RetV G rs env L vs) : (results fn a.tmps).run G.P w = .ok (packed vs) w := by
  rw [results_eq, hr, List.mapM_toArray]
  simp only [Sem.run_bind, Sem.run_map, run_rets ha hs h, Result.andThen_ok, Sem.run_pure]
  congr 1
  match vs with
  | [] => rfl
  | [v] => rfl
  | v :: u :: r => simp [packed]

def args0 : Nat → List Value → Env
  | _, [] => []
  | i, v :: r => (i, .val v) :: args0 (i + 1) r
theorem args0_get : ∀ (vs : List Value) (i j : Nat) (s : Slot), Env.get (args0 i vs) j = some s → i ≤ j ∧ ∃ v, s = .val v ∧ vs[j - i]? = some v
  | [], i, j, s, h => by cases h
  | v :: r, i, j, s, h => by
    simp only [args0, Env.get] at h
    split at h
    · rename_i e
      have e := Nat.eq_of_beq_eq_true e
      cases h; subst e
      exact ⟨Nat.le_refl _, v, rfl, by simp⟩
    · obtain ⟨h1, u, h2, h3⟩ := args0_get r (i + 1) j s h
      refine ⟨by omega, u, h2, ?_⟩
      have : j - i = (j - (i + 1)) + 1 := by omega
      rw [this]; simpa using h3
theorem body_calls {f : FuncId} {fn : Func} {c : Code} {vs : List Value} {rs : List ResultVar} {p : Value → List Assn → Prop} (hf : G.P.funcs[f]? = some fn) (hb : fn.body = some c) (hr : fn.results = rs.toArray) (hn : fn.ntmps = N)
    (hv : Nat.ble vs.length N = true) (h : WC G N c (args0 0 vs) L (retK G rs p)) (w : World) (hs : Sat L w) : Calls G.P f vs.toArray w (fun e w' => ∃ v M, e = .returned v ∧ p v M ∧ Sat M w') := by
  refine calls_of_wp hf hb (Code.wp_mono ?_ (h { tmps := vs.toArray ++ Array.replicate (fn.ntmps - vs.toArray.size) undef, defers := [] } w ?_ hs))
  · rintro e a w' ⟨env, M, ha, hs, hk⟩
    cases e with
    | normal => obtain ⟨vs, h1, h2⟩ := hk; exact ⟨ha.defers, _, run_results ha hs hr h1, _, _, rfl, h2, hs⟩
    | ret => obtain ⟨vs, h1, h2⟩ := hk; exact ⟨ha.defers, _, run_results ha hs hr h1, _, _, rfl, h2, hs⟩
    | _ => exact hk.elim
  · have hle : vs.length ≤ N := Nat.le_of_ble_eq_true hv
    refine ⟨rfl, by simp [hn]; omega, fun i s hi => ?_⟩
    obtain ⟨_, v, rfl, h2⟩ := args0_get vs 0 i s hi
    simp only [Nat.sub_zero] at h2
    simp only [Slot.fits]
    have : i < vs.length := (List.getElem?_eq_some_iff.1 h2).1
    have h3 : vs[i] = v := by rw [List.getElem?_eq_getElem this] at h2; exact Option.some.inj h2
    simp [Array.getElem?_append, this, h3]
/-- A function's contract, from its body. -/
theorem Triple.enter {f : FuncId} {fn : Func} {c : Code} {vs : List Value} {rs : List ResultVar} {pre : List Assn} {p : Value → List Assn → Prop} (hf : G.P.funcs[f]? = some fn) (hb : fn.body = some c) (hname : (fn.name == "runtime.NumGoroutine") = false) (hr : fn.results = rs.toArray) (hn : fn.ntmps = N)
    (hv : Nat.ble vs.length N = true) (h : ∀ F, WC G N c (args0 0 vs) (pre ++ [F]) (retK G rs (fun v M => ∃ M', p v M' ∧ Imp M (M' ++ [F])))) : Triple G f vs pre p :=
  ⟨⟨fn, c, hf, hname, hb⟩, fun F w hs => (body_calls hf hb hr hn hv (h (stars F)) w (by
      exact stars_app_one.1 hs)).mono fun _ _ ⟨v, M, e, ⟨M', h1, h2⟩, s⟩ => ⟨v, M', e, h1, stars_app_one.2 (h2 _ s)⟩⟩
theorem RO.enter {f : FuncId} {fn : Func} {c : Code} {vs : List Value} {rs : List ResultVar} {R : Assn} {v : Value} (hf : G.P.funcs[f]? = some fn) (hb : fn.body = some c) (hname : (fn.name == "runtime.NumGoroutine") = false) (hr : fn.results = rs.toArray) (hn : fn.ntmps = N)
    (hv : Nat.ble vs.length N = true) (h : ∀ A, Up A → (∀ k, A k → R k) → WC G N c (args0 0 vs) [A] (retK G rs (fun v' M => v' = v ∧ A ∈ M))) (hR : Up R) : RO G f vs R v :=
  ⟨⟨fn, c, hf, hname, hb⟩, fun w hw => (body_calls hf hb hr hn hv (h (old w) (up_old w) (fun _ x => hR _ _ x hw)) w (Sat.old w)).mono fun _ _ ⟨_, _, e, ⟨e1, e2⟩, s⟩ => ⟨by rw [e, e1], ext_of_old e2 s⟩⟩
end
end Go.GL
/- Regions whose order the tape picks. -/
namespace Go.GL
open Go

section
variable {P : Program} {ops : Array Oper} {Q : Exit → Act → World → Prop} {S : World → Prop} {n : Nat}
/-- Whatever order is picked from here on; S holds behind each of the first n operations. -/
def wpB (P : Program) (ops : Array Oper) (Q : Exit → Act → World → Prop) (S : World → Prop) (n : Nat) : Nat → Array Bool → Act → World → Prop
  | 0, listed, a, w => Region.ready .any ops listed = [] ∧ Q .normal a w
  | fuel + 1, listed, a, w =>
    (Region.ready .any ops listed = [] → Q .normal a w) ∧
    ∀ i ∈ Region.ready .any ops listed, wpOp P ops Q i (fun a' w' => (i < n → S w') ∧ wpB P ops Q S n fuel (listed.setIfInBounds i true) a' w') a w
theorem wpAny_of_B : ∀ (fuel : Nat) (listed : Array Bool) (a : Act) (w : World), wpB P ops Q S n fuel listed a w → wpAny P .any ops Q fuel listed a w
  | 0, _, _, _, h => h
  | fuel + 1, _, _, _, h => ⟨h.1, fun i hi => wpOp_mono (fun a' w' h' => wpAny_of_B fuel _ a' w' h'.2) (h.2 i hi)⟩
def Closed (ops : Array Oper) (listed : Array Bool) : Prop :=
  ∀ j oj, ops[j]? = some oj → listed.getD j false = true → ∀ e ∈ oj.after, Region.binds .any e = true → listed.getD e.on false = true
inductive Before (ops : Array Oper) : Nat → Nat → Prop
  | one {j : Nat} {oj : Oper} {e : Edge} : ops[j]? = some oj → e ∈ oj.after → Region.binds .any e = true → Before ops e.on j
  | more {i j : Nat} {oj : Oper} {e : Edge} : ops[j]? = some oj → e ∈ oj.after → Region.binds .any e = true → Before ops i e.on → Before ops i j
theorem Closed.before {listed : Array Bool} (c : Closed ops listed) {i j : Nat} (b : Before ops i j) (h : listed.getD j false = true) : listed.getD i false = true := by
  induction b with
  | one ho he hb => exact c _ _ ho h _ he hb
  | more ho he hb _ ih => exact ih (c _ _ ho h _ he hb)
theorem ready_before {listed : Array Bool} (c : Closed ops listed) {i j : Nat} (b : Before ops i j) (h : j ∈ Region.ready .any ops listed) : listed.getD i false = true := by
  obtain ⟨_, oj, hoj, hall⟩ := mem_ready.1 h
  cases b with
  | one ho he hb => rw [ho] at hoj; cases hoj; exact hall _ he hb
  | more ho he hb b => rw [ho] at hoj; cases hoj; exact c.before b (hall _ he hb)
theorem Closed.set {listed : Array Bool} (c : Closed ops listed) {i : Nat} (h : i ∈ Region.ready .any ops listed) : Closed ops (listed.setIfInBounds i true) := by
  have up : ∀ k, listed.getD k false = true → (listed.setIfInBounds i true).getD k false = true := fun k hk => by
    by_cases e : i = k
    · subst e
      have : i < listed.size := by
        rcases Nat.lt_or_ge i listed.size with h | h
        · exact h
        · simp [Array.getElem?_eq_none h] at hk
      simp [this]
    · rw [getD_set_ne false e]; exact hk
  obtain ⟨_, oi, hoi, hall⟩ := mem_ready.1 h
  intro j oj hoj hj e he hb
  by_cases hij : i = j
  · subst hij
    rw [hoi] at hoj; cases hoj
    exact up _ (hall e he hb)
  · rw [getD_set_ne false hij] at hj
    exact up _ (c j oj hoj hj e he hb)
theorem Closed.start : Closed ops (Array.replicate ops.size false) := fun j oj _ h => by
  simp [Array.getElem?_replicate] at h
  split at h <;> simp_all
def beforeB (ops : Array Oper) : Nat → Nat → Nat → Bool
  | 0, _, _ => false
  | f + 1, i, j => match ops[j]? with
    | none => false
    | some oj => oj.after.any (fun e => Region.binds .any e && e.on == i) || oj.after.any (fun e => Region.binds .any e && beforeB ops f i e.on)
theorem beforeB_ok : ∀ {f i j : Nat}, beforeB ops f i j = true → Before ops i j
  | f + 1, i, j, h => by
    unfold beforeB at h
    split at h
    · cases h
    · rename_i oj ho
      rw [Bool.or_eq_true] at h
      rcases h with h | h
      · obtain ⟨e, he, hb⟩ := Array.any_eq_true'.1 h
        simp only [Bool.and_eq_true, beq_iff_eq] at hb
        rw [← hb.2]; exact .one ho he hb.1
      · obtain ⟨e, he, hb⟩ := Array.any_eq_true'.1 h
        simp only [Bool.and_eq_true] at hb
        exact .more ho he hb.1 (beforeB_ok hb.2)
/-- each operation from number n on waits for all of the first n -/
def tailB (ops : Array Oper) (n : Nat) : Bool := (List.range ops.size).all fun j => Nat.blt j n || (List.range n).all fun i => beforeB ops ops.size i j
theorem tailB_ok (h : tailB ops n = true) {listed : Array Bool} (c : Closed ops listed) {i : Nat} (hi : i < n) (hu : listed.getD i true = false) {j : Nat} (hj : j ∈ Region.ready .any ops listed) : j < n := by
  rcases Nat.lt_or_ge j n with h' | h'
  · exact h'
  · obtain ⟨_, oj, hoj, _⟩ := mem_ready.1 hj
    have hlt := (Array.getElem?_eq_some_iff.1 hoj).1
    simp only [tailB, List.all_eq_true, List.mem_range, Bool.or_eq_true] at h
    rcases h j hlt with h1 | h1
    · simp [Nat.blt_eq] at h1; omega
    · have := ready_before c (beforeB_ok (h1 i hi)) hj
      rcases Nat.lt_or_ge i listed.size with h2 | h2
      · simp [h2] at hu this; rw [hu] at this; cases this
      · simp [Array.getElem?_eq_none h2] at hu

/-- An operation that yields its value wherever R holds may be taken first: if R holds as long as it is pending. -/
theorem wpB_first {R : World → Prop} {i : Nat} {oi : Oper} {v : Value} (hi : ops[i]? = some oi) (hsel : ∀ (j : Nat) (o : Oper) cs b, ops[j]? = some o → o.op ≠ .select cs b)
    (hQ : ∀ c a w, Q (.panic c) (a.put oi.dst v) w → Q (.panic c) a w) (ht : tailB ops n = true) (hR : (∀ w, R w) ∨ (i < n ∧ ∀ w, S w → R w)) :
    ∀ (fuel : Nat) (listed : Array Bool) (a : Act) (w : World), Closed ops listed →
      (∀ j oj, ops[j]? = some oj → j ≠ i → listed.getD j true = false → (∀ e ∈ oj.after, Region.binds .any e = true → e.on ≠ i) → oi.apart ops oj = true) →
      i ∈ Region.ready .any ops listed → YieldsIf P ops R oi v a → R w → (i < n → S w) →
      wpB P ops Q S n fuel (listed.setIfInBounds i true) (a.put oi.dst v) w → wpB P ops Q S n (fuel + 1) listed a w := by
  intro fuel
  induction fuel with
  | zero =>
    intro listed a w hc _ hr hy hRw hS H
    refine ⟨fun h => (by rw [h] at hr; cases hr), fun j hj => ?_⟩
    by_cases hji : j = i
    · subst hji; exact hy.wpOp hi hRw ⟨hS, H⟩
    · have := ready_mono hj hji
      rw [H.1] at this
      cases this
  | succ fuel ih =>
    intro listed a w hc hfree hr hy hRw hS H
    refine ⟨fun h => (by rw [h] at hr; cases hr), fun j hj => ?_⟩
    by_cases hji : j = i
    · subst hji; exact hy.wpOp hi hRw ⟨hS, H⟩
    · have h1 := H.2 j (ready_mono hj hji)
      obtain ⟨hjun, oj, hoj, hall⟩ := mem_ready.1 hj
      have hnot : ∀ e ∈ oj.after, Region.binds .any e = true → e.on ≠ i := fun e he hb heq => by
        have h1 := hall e he hb
        have h0 := (mem_ready.1 hr).1
        rw [heq] at h1
        rcases Nat.lt_or_ge i listed.size with h' | h'
        · simp [h'] at h0 h1; rw [h0] at h1; cases h1
        · simp [Array.getElem?_eq_none h'] at h1
      have h2 := wpOp_putIf hoj (hfree j oj hoj hji hjun hnot) (fun cs b => hsel i oi cs b hi) (fun cs b => hsel j oj cs b hoj) hQ hy h1
      have hfree' : ∀ k ok, ops[k]? = some ok → k ≠ i → (listed.setIfInBounds j true).getD k true = false →
          (∀ e ∈ ok.after, Region.binds .any e = true → e.on ≠ i) → oi.apart ops ok = true := fun k ok hk hki hun hno => by
        refine hfree k ok hk hki ?_ hno
        by_cases hjk : j = k
        · subst hjk; exact hjun
        · rw [getD_set_ne true hjk] at hun; exact hun
      have hjn : i < n → j < n := fun hin => tailB_ok ht hc hin (mem_ready.1 hr).1 hj
      refine wpOp_mono (fun a' w' h3 => ⟨h3.2.1, ih (listed.setIfInBounds j true) a' w' (hc.set hj) hfree' (ready_mono hr (Ne.symm hji)) h3.1 ?_ ?_ ?_⟩) h2
      · rcases hR with hR | ⟨hin, hR⟩
        · exact hR _
        · exact hR _ (h3.2.1 (hjn hin))
      · exact fun hin => h3.2.1 (hjn hin)
      · rw [Array.setIfInBounds_comm _ _ hji]
        exact h3.2.2
end

/-- A region whose order the tape picks: so many of its operations have come up. 'S': what its loads lean on, as long as one of the first n is to come. 'hd': S is known to hold now. -/
structure WH (G : Ctx) (N : Nat) (ops : Array Oper) (n : Nat) (S : List Assn) (hd : Bool) (fuel : Nat) (listed : Array Bool) (env : Env) (L : List Assn) (k : Kont) : Prop where
  go : tailB ops n = true → ∀ a w, Agree N env a → Sat L w → (hd = true → Sat S w) → Closed ops listed → wpB G.P ops (lift N k) (Sat S) n fuel listed a w
instance (G : Ctx) (N : Nat) (ops : Array Oper) (n : Nat) (S : List Assn) (hd : Bool) (fuel : Nat) (listed : Array Bool) (env : Env) (L : List Assn) (k : Kont) : CoeFun (WH G N ops n S hd fuel listed env L k) (fun _ => tailB ops n = true → ∀ a w, Agree N env a → Sat L w → (hd = true → Sat S w) → Closed ops listed → wpB G.P ops (lift N k) (Sat S) n fuel listed a w) := ⟨WH.go⟩
section
variable {G : Ctx} {N : Nat} {env : Env} {L S : List Assn} {k : Kont} {n : Nat} {fuel : Nat} {listed : Array Bool} {hd : Bool}
theorem WC.regionD {id : Nat} {l : List Oper} (n m : Nat) (S : List Assn) (hm : l.length = m) (ht : tailB l.toArray n = true) (hS : Imp L S) (h : WH G N l.toArray n S true m (Array.replicate m false) env L k) : WC G N (.region id l.toArray true) env L k := .mk fun a w ha hs =>
  wp_region_any G.mixed (wpAny_of_B _ _ _ _ (by
    subst hm
    have hs' : Sat L { w with drawn := w.drawn + 1 } := hs
    have := h ht a _ ha hs' (fun _ => hS.sat hs') (by have := Closed.start (ops := l.toArray); simpa using this)
    simpa using this))
variable {l : List Oper} {o : Oper}
theorem WH.done (hr : Region.ready .any l.toArray listed = []) (h : k .normal env L) : WH G N l.toArray n S hd fuel listed env L k := .mk fun _ a w ha hs _ _ => by
  have : lift N k .normal a w := ⟨env, L, ha, hs, h⟩
  cases fuel with
  | zero => exact ⟨hr, this⟩
  | succ f => exact ⟨fun _ => this, by rw [hr]; simp⟩
theorem noPanic (hk : ∀ c env L, ¬ k (.panic c) env L) (c : List PanicEntry) (a : Act) (w : World) (d : Option Tmp) (v : Value) : lift N k (.panic c) (a.put d v) w → lift N k (.panic c) a w := fun ⟨_, _, _, _, h⟩ => (hk _ _ _ h).elim
/-- take operation number i: it only computes -/
theorem WH.pure (i : Nat) {d : Nat} {nw : Bool} {c : Option Prop} {v : Value} (hi : l.toArray[i]? = some o) (hg : o.guard = none) (hs : Region.noSelect l.toArray = true) (hf : Region.free .any l.toArray listed i = true) (hr : (Region.ready .any l.toArray listed).contains i = true)
    (hk : ∀ c env L, ¬ k (.panic c) env L) (hH : (hd || Nat.ble n i) = true) (he : ev G.T nw none env o.op = some (c, v)) (hc : Holds c) (hdst : o.dst = some d) (hN : Nat.blt d N = true)
    (h : WH G N l.toArray n S hd fuel (listed.setIfInBounds i true) ((d, .val v) :: env) L k) : WH G N l.toArray n S hd (fuel + 1) listed env L k := .mk fun ht a w ha hsat hS hcl => by
  have hri : i ∈ Region.ready .any l.toArray listed := by simpa using hr
  refine wpB_first (R := fun _ => True) hi (Region.noSelect_spec hs) (fun c a w => noPanic hk c a w _ _) ht (.inl fun _ => trivial) fuel listed a w hcl (Region.free_spec hi hf) hri
    (.inl ⟨by simp [Region.wanted, hg], fun w _ => ev_ok G.ok he hc trivial ha w⟩) trivial (fun hin => ?_) ?_
  · cases hd with
    | true => exact hS rfl
    | false => have := Nat.le_of_ble_eq_true (by simpa using hH); omega
  · rw [hdst]; exact h ht _ w (ha.put hN v) hsat hS (hcl.set hri)
/-- take operation number i, which is guarded and only computes -/
theorem WH.guarded (i : Nat) {j t d : Nat} {want q nw : Bool} {oj : Oper} {c : Option Prop} {v : Value} (hi : l.toArray[i]? = some o) (hg : o.guard = some (j, want)) (hj : l.toArray[j]? = some oj) (hjt : oj.dst = some t) (hq : gdOf env t want = some q)
    (hs : Region.noSelect l.toArray = true) (hf : Region.free .any l.toArray listed i = true) (hr : (Region.ready .any l.toArray listed).contains i = true)
    (hk : ∀ c env L, ¬ k (.panic c) env L) (hH : (hd || Nat.ble n i) = true) (he : ev G.T nw (some q) env o.op = some (c, v)) (hc : Holds c) (hdst : o.dst = some d) (hN : Nat.blt d N = true)
    (h : WH G N l.toArray n S hd fuel (listed.setIfInBounds i true) ((d, .grd q v) :: env) L k) : WH G N l.toArray n S hd (fuel + 1) listed env L k := .mk fun ht a w ha hsat hS hcl => by
  have hri : i ∈ Region.ready .any l.toArray listed := by simpa using hr
  have hw := gdOf_ok (ops := l.toArray) ha hq hj hjt hg
  refine wpB_first (R := fun _ => True) (v := bif q then v else undef) hi (Region.noSelect_spec hs) (fun c a w => noPanic hk c a w _ _) ht (.inl fun _ => trivial) fuel listed a w hcl (Region.free_spec hi hf) hri ?_ trivial (fun hin => ?_) ?_
  · cases q with
    | true => exact .inl ⟨hw, fun w _ => ev_ok G.ok he hc rfl ha w⟩
    | false => exact .inr ⟨hw, rfl⟩
  · cases hd with
    | true => exact hS rfl
    | false => have := Nat.le_of_ble_eq_true (by simpa using hH); omega
  · rw [hdst]; exact h ht _ w (ha.grd hN rfl) hsat hS (hcl.set hri)
theorem run_load1 {P : Program} {T : Tab} (hT : T.ok P) {t : TypeId} {x : Operand} {b off : Nat} {ti : TI} {v : Value} {a : Act} {w : World} (ho : o.op = .load t x) (hx : a.eval x = .pointer (some ⟨b, off, none⟩)) (ht : T.find t = some ti) (hg : ti.agg = false)
    (hv : cellAt b off v (hpOf w)) : (execOp a.eval o).run P w = .ok (.value v) w := by
  have e := Tab.find_ok hT ht
  rw [execOp, ho]
  refine val_run ?_
  have hc := cell_of_cellAt hv
  simp [Instr.loadAt, hx, Instr.sureAddr, loadVar, run_isAgg e, hg, hc]
theorem run_loadA {P : Program} {T : Tab} (hT : T.ok P) {t : TypeId} {x : Operand} {b off : Nat} {ti : TI} {l : List Value} {a : Act} {w : World} (ho : o.op = .load t x) (hx : a.eval x = .pointer (some ⟨b, off, none⟩)) (ht : T.find t = some ti) (hg : ti.agg = true)
    (hv : cellsAt b off l (hpOf w)) (hl : l.length = ti.size) : (execOp a.eval o).run P w = .ok (.value (.agg l.toArray)) w := by
  have e := Tab.find_ok hT ht
  rw [execOp, ho]
  refine val_run ?_
  have hc := run_cells (P := P) hv l.length 0 #[] (by omega)
  simp only [List.drop_zero, Array.empty_append] at hc
  simp [Instr.loadAt, hx, Instr.sureAddr, loadVar, run_isAgg e, hg, run_size e, loadCells, ← hl, hc]
/-- what a load reads -/
def Loads (S : List Assn) (ti : TI) (b off : Nat) (v : Value) : Prop := (ti.agg = false ∧ Ent S (cellAt b off v)) ∨ (ti.agg = true ∧ ∃ l, v = .agg l.toArray ∧ l.length = ti.size ∧ Ent S (cellsAt b off l))
theorem loads_cut {ti : TI} {b off n : Nat} {l : List Value} (hg : ti.agg = true) (hn : sizeL ti = some n) (h : HasCut S b off n l) : Loads S ti b off (.agg l.toArray) := .inr ⟨hg, l, rfl, h.ent.2.trans (sizeL_eq hn).symm, h.ent.1⟩
theorem run_loads {P : Program} {T : Tab} (hT : T.ok P) {t : TypeId} {x : Operand} {b off : Nat} {ti : TI} {v : Value} {a : Act} {w : World} (ho : o.op = .load t x) (hx : a.eval x = .pointer (some ⟨b, off, none⟩)) (ht : T.find t = some ti)
    (hv : Loads S ti b off v) (hs : Sat S w) : (execOp a.eval o).run P w = .ok (.value v) w := by
  rcases hv with ⟨hg, h⟩ | ⟨hg, l, rfl, hl, h⟩
  · exact run_load1 hT ho hx ht hg (h _ hs)
  · exact run_loadA hT ho hx ht hg (h _ hs) hl
/-- take operation number i: a load of what S tells -/
theorem WH.load (i : Nat) {d : Nat} {t : TypeId} {x : Operand} {b off : Nat} {ti : TI} {v : Value} (hi : l.toArray[i]? = some o) (hg : o.guard = none) (hs : Region.noSelect l.toArray = true) (hf : Region.free .any l.toArray listed i = true) (hr : (Region.ready .any l.toArray listed).contains i = true)
    (hk : ∀ c env L, ¬ k (.panic c) env L) (hin : Nat.blt i n = true) (ho : o.op = .load t x) (hx : rd none env x = some (none, .pointer (some ⟨b, off, none⟩))) (hti : G.T.find t = some ti) (hv : Loads S ti b off v) (hdst : o.dst = some d) (hN : Nat.blt d N = true)
    (h : WH G N l.toArray n S true fuel (listed.setIfInBounds i true) ((d, .val v) :: env) L k) : WH G N l.toArray n S true (fuel + 1) listed env L k := .mk fun ht a w ha hsat hS hcl => by
  have hri : i ∈ Region.ready .any l.toArray listed := by simpa using hr
  have hin' : i < n := by simpa [Nat.blt_eq] using hin
  refine wpB_first (R := Sat S) hi (Region.noSelect_spec hs) (fun c a w => noPanic hk c a w _ _) ht (.inr ⟨hin', fun _ h => h⟩) fuel listed a w hcl (Region.free_spec hi hf) hri
    (.inl ⟨by simp [Region.wanted, hg], fun w hw => run_loads G.ok ho (rd_plain hx ha) hti hv hw⟩) (hS rfl) (fun _ => hS rfl) ?_
  rw [hdst]; exact h ht _ w (ha.put hN v) hsat hS (hcl.set hri)
/-- a guarded load -/
theorem WH.loadG (i : Nat) {j jt d : Nat} {want q : Bool} {oj : Oper} {t : TypeId} {x : Operand} {b off : Nat} {ti : TI} {v : Value} {c : Option Prop} (hi : l.toArray[i]? = some o) (hg : o.guard = some (j, want)) (hj : l.toArray[j]? = some oj) (hjt : oj.dst = some jt) (hq : gdOf env jt want = some q)
    (hs : Region.noSelect l.toArray = true) (hf : Region.free .any l.toArray listed i = true) (hr : (Region.ready .any l.toArray listed).contains i = true)
    (hk : ∀ c env L, ¬ k (.panic c) env L) (hin : Nat.blt i n = true) (ho : o.op = .load t x) (hx : rd (some q) env x = some (c, .pointer (some ⟨b, off, none⟩))) (hc : Holds c) (hti : G.T.find t = some ti) (hv : q = true → Loads S ti b off v) (hdst : o.dst = some d) (hN : Nat.blt d N = true)
    (h : WH G N l.toArray n S true fuel (listed.setIfInBounds i true) ((d, .grd q v) :: env) L k) : WH G N l.toArray n S true (fuel + 1) listed env L k := .mk fun ht a w ha hsat hS hcl => by
  have hri : i ∈ Region.ready .any l.toArray listed := by simpa using hr
  have hin' : i < n := by simpa [Nat.blt_eq] using hin
  have hw := gdOf_ok (ops := l.toArray) ha hq hj hjt hg
  refine wpB_first (R := Sat S) (v := bif q then v else undef) hi (Region.noSelect_spec hs) (fun c a w => noPanic hk c a w _ _) ht (.inr ⟨hin', fun _ h => h⟩) fuel listed a w hcl (Region.free_spec hi hf) hri ?_ (hS rfl) (fun _ => hS rfl) ?_
  · cases q with
    | true => exact .inl ⟨hw, fun w hw => run_loads G.ok ho (rd_ok ha hx hc rfl) hti (hv rfl) hw⟩
    | false => exact .inr ⟨hw, rfl⟩
  rw [hdst]; exact h ht _ w (ha.grd hN rfl) hsat hS (hcl.set hri)
/-- the one operation that may come up now -/
theorem WH.only (i : Nat) {hd' : Bool} (hi : l.toArray[i]? = some o) (hg : o.guard = none) (hr : Region.ready .any l.toArray listed = [i]) (hb : hd' = Nat.blt i n)
    (h : OP G N o env L (fun e M => (hd' = true → Imp M S) ∧ WH G N l.toArray n S hd' fuel (listed.setIfInBounds i true) e M k)) : WH G N l.toArray n S hd (fuel + 1) listed env L k := .mk fun ht a w ha hsat _ hcl => by
  have hri : i ∈ Region.ready .any l.toArray listed := by rw [hr]; simp
  refine ⟨fun h0 => (by rw [hr] at h0; cases h0), fun j hj => ?_⟩
  rw [hr] at hj
  simp only [List.mem_singleton] at hj
  subst hj
  unfold wpOp
  rw [hi]
  simp only []
  rw [if_pos (by simp [Region.wanted, hg])]
  refine .inl (wp_oper_mono ?_ (fun _ _ _ h => h.elim) (h a w ha hsat))
  rintro a' w' ⟨e, M, x, y, z1, z2⟩
  refine ⟨fun hlt => (z1 ?_).sat y, z2 ht a' w' x y (fun e => (z1 e).sat y) (hcl.set hri)⟩
  rw [hb]; simpa [Nat.blt_eq] using hlt
/-- likewise, where its guard says no or yes -/
theorem WH.onlyG (i : Nat) {hd' : Bool} {j t d : Nat} {want q : Bool} {oj : Oper} (hi : l.toArray[i]? = some o) (hg : o.guard = some (j, want)) (hj : l.toArray[j]? = some oj) (hjt : oj.dst = some t) (hq : gdOf env t want = some q) (hdst : o.dst = some d) (hN : Nat.blt d N = true)
    (hr : Region.ready .any l.toArray listed = [i]) (hb : hd' = Nat.blt i n) (hh : hd = true ∨ hd' = false)
    (h1 : q = true → OP G N o env L (fun e M => (hd' = true → Imp M S) ∧ WH G N l.toArray n S hd' fuel (listed.setIfInBounds i true) e M k))
    (h2 : q = false → WH G N l.toArray n S hd' fuel (listed.setIfInBounds i true) ((d, .val undef) :: env) L k) : WH G N l.toArray n S hd (fuel + 1) listed env L k := .mk fun ht a w ha hsat hS hcl => by
  have hri : i ∈ Region.ready .any l.toArray listed := by rw [hr]; simp
  have hw := gdOf_ok (ops := l.toArray) ha hq hj hjt hg
  refine ⟨fun h0 => (by rw [hr] at h0; cases h0), fun j' hj' => ?_⟩
  rw [hr] at hj'
  simp only [List.mem_singleton] at hj'
  subst hj'
  unfold wpOp
  rw [hi]
  simp only []
  rw [hw]
  cases q with
  | true =>
    rw [if_pos rfl]
    refine .inl (wp_oper_mono ?_ (fun _ _ _ h => h.elim) (h1 rfl a w ha hsat))
    rintro a' w' ⟨e, M, x, y, z1, z2⟩
    refine ⟨fun hlt => (z1 ?_).sat y, z2 ht a' w' x y (fun e => (z1 e).sat y) (hcl.set hri)⟩
    rw [hb]; simpa [Nat.blt_eq] using hlt
  | false =>
    rw [if_neg (by simp), hdst]
    have hS' : hd' = true → Sat S w := fun e => by
      rcases hh with hh | hh
      · exact hS hh
      · rw [hh] at e; cases e
    refine ⟨fun hlt => hS' ?_, h2 rfl ht _ w (ha.put hN _) hsat hS' (hcl.set hri)⟩
    rw [hb]; simpa [Nat.blt_eq] using hlt
end
end Go.GL
/- Slices that own their block, slices that are read; append, string and bytes. -/
namespace Go.GL
open Go

/-- The slice (a, n, cap) reads as these cells. -/
def readS (a : Option Addr) (n size : Nat) (cs : List Value) : Assn := fun h =>
  cs.length = n * size ∧ ((a = none ∧ n = 0) ∨ ∃ b off, a = some ⟨b, off, none⟩ ∧ cellsAt b off cs h)
theorem up_readS (a : Option Addr) (n size : Nat) (cs : List Value) : Up (readS a n size cs) := fun h k le ⟨e, x⟩ => ⟨e, x.imp id fun ⟨b, off, e, c⟩ => ⟨b, off, e, up_cellsAt _ _ _ h k le c⟩⟩
/-- The slice (a, n, cap), whose block is its own, holds these cells. -/
def ownS (a : Option Addr) (n cap : Nat) (T : TypeId) (size : Nat) (cs : List Value) : Assn := fun h =>
  cs.length = n * size ∧ n ≤ cap ∧ ((a = none ∧ cap = 0) ∨ ∃ b pre post, a = some ⟨b, pre.length, none⟩ ∧ cap * size ≤ cs.length + post.length ∧ blk b (pre ++ cs ++ post) T h)
theorem cells_mid {b : Nat} {pre cs post : List Value} {T : TypeId} {h : Hp} (x : blk b (pre ++ cs ++ post) T h) : cellsAt b pre.length cs h := by
  obtain ⟨fr, hb, _⟩ := x
  refine ⟨_, T, fr, hb, fun i v hi => ?_⟩
  have hlt : i < cs.length := (List.getElem?_eq_some_iff.1 hi).1
  simp only [List.getElem?_toArray]
  rw [List.append_assoc, List.getElem?_append_right (by omega), List.getElem?_append_left (by omega)]
  simpa using hi
theorem read_of_own {a : Option Addr} {n cap : Nat} {T : TypeId} {size : Nat} {cs : List Value} {h : Hp} (x : ownS a n cap T size cs h) : readS a n size cs h := by
  obtain ⟨e, le, ⟨rfl, rfl⟩ | ⟨b, pre, post, rfl, _, x⟩⟩ := x
  · exact ⟨e, .inl ⟨rfl, by omega⟩⟩
  · exact ⟨e, .inr ⟨b, _, rfl, cells_mid x⟩⟩
theorem up_ownS (a : Option Addr) (n cap : Nat) (T : TypeId) (size : Nat) (cs : List Value) : Up (ownS a n cap T size cs) := fun h k le ⟨e, l, x⟩ =>
  ⟨e, l, x.imp id fun ⟨b, pre, post, e, c, y⟩ => ⟨b, pre, post, e, c, up_blk _ _ _ h k le y⟩⟩
theorem Ent.own {L : List Assn} {a : Option Addr} {n cap : Nat} {T : TypeId} {size : Nat} {cs : List Value} (m : ownS a n cap T size cs ∈ L) : Ent L (readS a n size cs) :=
  Ent.mem m (up_ownS _ _ _ _ _ _) fun _ x => read_of_own x
theorem ownS_nil (T : TypeId) (size : Nat) (h : Hp) : ownS none 0 0 T size [] h := ⟨by simp, Nat.le_refl _, .inl ⟨rfl, rfl⟩⟩

theorem Imp.nilS {L : List Assn} (T : TypeId) (size : Nat) : Imp L (ownS none 0 0 T size [] :: L) := fun h s => ⟨Hp.empty, h, fun _ => .inl rfl, by funext b; simp [Hp.join, Hp.empty], ownS_nil _ _ _, s⟩
theorem setOne_lt {c : List Value} {n : Nat} (v : Value) (h : n < c.length) : setOne c n v = some (c.set n v) := by
  induction c generalizing n with
  | nil => simp at h
  | cons x r ih =>
    cases n with
    | zero => rfl
    | succ n => simp only [setOne, ih (by simpa using h), List.set_cons_succ]
theorem setMany_mid : ∀ (vs pre old post : List Value), old.length = vs.length → setMany (pre ++ old ++ post) pre.length vs = some (pre ++ vs ++ post)
  | [], pre, old, post, h => by
    have : old = [] := List.length_eq_zero_iff.1 h
    subst this; rfl
  | v :: vs, pre, [], post, h => by simp at h
  | v :: vs, pre, o :: old, post, h => by
    have h1 : setOne (pre ++ o :: old ++ post) pre.length v = some (pre ++ v :: old ++ post) := by
      rw [setOne_lt _ (by simp)]
      simp
    have h2 := setMany_mid vs (pre ++ [v]) old post (by simpa using h)
    simp only [List.length_append, List.length_singleton, List.append_assoc, List.cons_append, List.nil_append] at h2
    simp only [List.append_assoc, List.cons_append] at h1
    simp only [setMany, List.append_assoc, List.cons_append, h1]
    exact h2

/-- Cells of a slice that is read are loaded. -/
theorem run_firstCells {P : Program} {w : World} {a : Option Addr} {n size c : Nat} {cs : List Value} (h : readS a n size cs (hpOf w)) : (Builtin.firstCells size n (.slice a n c)).run P w = .ok cs.toArray w := by
  obtain ⟨e, ⟨rfl, rfl⟩ | ⟨b, off, rfl, hc⟩⟩ := h
  · have : cs = [] := List.length_eq_zero_iff.1 (by simpa using e)
    subst this
    simp [Builtin.firstCells]
  · have := run_cells (P := P) hc cs.length 0 #[] (by omega)
    simp only [List.drop_zero, Array.empty_append] at this
    simp only [Builtin.firstCells, loadCells, ← e, this]
theorem nextcap_le (need old : Nat) (h : old < need) : Builtin.nextslicecap need old ≤ 2 * need := by
  unfold Builtin.nextslicecap
  split
  · omega
  · split
    · omega
    · have key : ∀ (r c : Nat), c ≤ 2 * need → Builtin.growBy need r c ≤ 2 * need := by
        intro r
        induction r with
        | zero => intro c hc; exact hc
        | succ r ih =>
          intro c hc
          unfold Builtin.growBy
          split
          · exact hc
          · exact ih _ (by omega)
      exact key _ _ (by omega)

section
variable {G : Ctx} {P : Program}
/-- What append is told to append: so many elements, these cells. -/
def Appends (P : Program) (t2 : TypeId) (y : Value) (m size : Nat) (ds : List Value) (w : World) : Prop :=
  ((∃ e, P.underlying t2 = some (.slice e)) ∨ P.underlying t2 = some .string) ∧ ds.length = m * size ∧ (Builtin.lenOf y).run P w = .ok m w ∧ (Builtin.firstCells size m y).run P w = .ok ds.toArray w
theorem run_append {T : Tab} (hT : T.ok P) {t t2 e ty : TypeId} {ti tsl : TI} {a : Option Addr} {n cap m : Nat} {cs ds : List Value} {y : Value} {F : List Assn} {w : World}
    (ht : T.find t = some tsl) (htd : tsl.desc = .slice e) (hte : T.find e = some ti) (hs : Sat (ownS a n cap e ti.size cs :: F) w)
    (hy : ∀ w', hpOf w' = hpOf w → Appends P t2 y m ti.size ds w') (hone : allOne ds = true) (hb : (n + m) * ti.bytes ≤ 140737488355328) (hmax : n + m ≤ 9223372036854775807) :
    ∃ a' cap' w', (Builtin.append_ #[t, t2] ty #[.slice a n cap, y]).run P w = .ok (.slice a' (n + m) cap') w' ∧ Sat (ownS a' (n + m) cap' e ti.size (cs ++ ds) :: F) w' := by
  have eT := Tab.find_ok hT ht
  have eE := Tab.find_ok hT hte
  have hu : P.underlying t = some (.slice e) := htd ▸ eT.desc
  obtain ⟨ht2, hlen, hl, hf⟩ := hy w rfl
  obtain ⟨h1, h2, d, e', hown, rest⟩ := hs
  obtain ⟨hcl, hle, hown⟩ := hown
  by_cases hroom : n + m ≤ cap
  · -- there is room
    rcases hown with ⟨rfl, rfl⟩ | ⟨b, pre, post, rfl, hcap, hblk⟩
    · have hn : n = 0 := by omega
      have hm : m = 0 := by omega
      subst hn hm
      have hds : ds = [] := List.length_eq_zero_iff.1 (by simpa using hlen)
      have hcs : cs = [] := List.length_eq_zero_iff.1 (by simpa using hcl)
      subst hds hcs
      refine ⟨none, 0, w, ?_, ⟨h1, h2, d, e', ⟨by simp, Nat.le_refl _, .inl ⟨rfl, rfl⟩⟩, rest⟩⟩
      rcases ht2 with ⟨e2, ht2⟩ | ht2 <;> simp [Builtin.append_, run_underlying hu, run_underlying ht2, run_size eE, hl, hf]
    · have hpost : ds.length ≤ post.length := by
        have : (n + m) * ti.size ≤ cap * ti.size := Nat.mul_le_mul_right _ hroom
        rw [Nat.add_mul] at this
        omega
      have hs' : Sat (blk b (pre ++ cs ++ post) e :: F) w := ⟨h1, h2, d, e', hblk, rest⟩
      have hsplit : pre ++ cs ++ post = (pre ++ cs) ++ post.take ds.length ++ post.drop ds.length := by simp
      have hset := setMany_mid ds (pre ++ cs) (post.take ds.length) (post.drop ds.length) (by simp [hpost])
      rw [← hsplit] at hset
      obtain ⟨w', r, s⟩ := run_stores (P := P) ds (pre ++ cs).length 0 (pre ++ cs ++ post) (pre ++ cs ++ ds ++ post.drop ds.length) _ _ w (allOne_mem hone) hset (.here _ _ _ _ _) hs'
      refine ⟨some ⟨b, pre.length, none⟩, cap, w', ?_, ?_⟩
      · have hadd : (⟨b, pre.length, none⟩ : Addr).add (n * ti.size) = ⟨b, (pre ++ cs).length, none⟩ := by rw [addr_add, ← hcl]; simp
        have r' := r
        simp only [List.length_append] at r'
        rcases ht2 with ⟨e2, ht2⟩ | ht2 <;> simp [Builtin.append_, run_underlying hu, run_underlying ht2, run_size eE, hl, hf, hroom, hadd, r']
      · refine stars_head_mono (A := blk b (pre ++ cs ++ ds ++ post.drop ds.length) e) (fun k hk => ?_) s
        refine ⟨by rw [List.length_append, hcl, hlen, Nat.add_mul], hroom, .inr ⟨b, pre, post.drop ds.length, rfl, ?_, by rw [← List.append_assoc]; exact hk⟩⟩
        simp only [List.length_append, List.length_drop]; omega
  · -- a new array
    have hro : readS a n ti.size cs (hpOf w) := up_readS _ _ _ _ _ _ (by rw [e']; exact Hp.le_join_left _ _) (read_of_own ⟨hcl, hle, hown⟩)
    have hcapb : ¬ (Builtin.nextslicecap (n + m) cap * ti.bytes > 2 ^ 48) := by
      have h1 := nextcap_le (n + m) cap (by omega)
      have h2 : Builtin.nextslicecap (n + m) cap * ti.bytes ≤ 2 * (n + m) * ti.bytes := Nat.mul_le_mul_right _ h1
      rw [Nat.mul_assoc] at h2
      omega
    have hmax' : ¬ (((n + m : Nat) : Int) > IntKind.i64.max) := by
      simp [IntKind.max, IntKind.signed, IntKind.bits]; omega
    obtain ⟨x, hx, hinfo, hxs, hxb, hxz, _⟩ := run_info eE w
    have hinfo' : ∀ w', (typeInfo e).run P w' = .ok x w' := fun w' => by obtain ⟨x', hx', h', _⟩ := run_info eE w'; rw [hx] at hx'; cases hx'; exact h'
    have hmax2 : ¬ (9223372036854775807 < (n : Int) + (m : Int)) := by omega
    have hw1 : hpOf w.drew = hpOf w := rfl
    have hfo : (Question.appendCap (n + m) cap e).forced = false := rfl
    obtain ⟨cap', hcap', hge⟩ : ∃ cap', (Question.appendCap (n + m) cap e).cut (w.tape w.drawn (Question.appendCap (n + m) cap e)) = cap' ∧ n + m ≤ cap' := ⟨_, rfl, by simp only [Question.cut]; omega⟩
    obtain ⟨_, _, _, hf1⟩ := hy w.drew hw1
    have hro1 : readS a n ti.size cs (hpOf w.drew) := hro
    have hs1 : Sat F w.drew := by unfold Sat; rw [hw1, e']; exact stars_mono (Hp.le_join_right d) rest
    have hzs : (Builtin.zeroCells (zeroOf ti).cells (cap' - (n + m))).size = (cap' - (n + m)) * ti.size := by
      simp [Builtin.zeroCells, eE.zcells, eE.zero]
    have hnew := Sat.new hs1 (cs ++ ds ++ (Builtin.zeroCells (zeroOf ti).cells (cap' - (n + m))).toList) e
    refine ⟨some ⟨w.drew.heap.size, 0, none⟩, cap', _, ?_, stars_head_mono (fun k hk => ⟨by rw [List.length_append, hcl, hlen, Nat.add_mul], hge, .inr ⟨_, [], (Builtin.zeroCells (zeroOf ti).cells (cap' - (n + m))).toList, rfl, ?_, by rw [List.nil_append]; exact hk⟩⟩) hnew⟩
    · have earr : cs.toArray ++ (ds.toArray ++ Builtin.zeroCells (zeroOf ti).cells (cap' - (n + m))) = (cs ++ (ds ++ (Builtin.zeroCells (zeroOf ti).cells (cap' - (n + m))).toList)).toArray := by
        apply Array.ext'; simp
      rcases ht2 with ⟨e2, ht2⟩ | ht2 <;>
        simp [Builtin.append_, run_underlying hu, run_underlying ht2, run_size eE, hl, hroom, hinfo', hxb, hmax2, hcapb, hfo, hcap', hf1, run_firstCells hro1, run_zero eE, newRow, earr] <;> rfl
    · have e1 : (Builtin.zeroCells (zeroOf ti).cells (cap' - (n + m))).toList.length = (cap' - (n + m)) * ti.size := by rw [← hzs]; exact Array.length_toList
      rw [e1, List.length_append, hcl, hlen, ← Nat.add_mul, ← Nat.add_mul]
      exact Nat.mul_le_mul_right _ (by omega)
theorem appends_slice {P : Program} {t2 e : TypeId} (hu : P.underlying t2 = some (.slice e)) {a : Option Addr} {m c size : Nat} {ds : List Value} {w : World} (h : readS a m size ds (hpOf w)) : Appends P t2 (.slice a m c) m size ds w :=
  ⟨.inl ⟨e, hu⟩, h.1, by simp [Builtin.lenOf], run_firstCells h⟩
def byteV (b : UInt8) : Value := .int .u8 b.toNat
def strCells (s : ByteArray) : List Value := s.data.toList.map byteV
theorem appends_string {P : Program} {t2 : TypeId} (hu : P.underlying t2 = some .string) (s : ByteArray) (w : World) : Appends P t2 (.string s) s.size 1 (strCells s) w := by
  refine ⟨.inr hu, by simp [strCells], by simp [Builtin.lenOf], ?_⟩
  simp only [Builtin.firstCells, ByteArray.extract_zero_size, Sem.run_pure]
  congr 1
  apply Array.ext'
  simp [strCells, byteV]

section
variable {N : Nat} {env : Env} {L : List Assn} {o : Oper} {post : Env → List Assn → Prop} {d : Nat}
/-- a type's size and bytes -/
def szL : TI → Option (Nat × Nat)
  | ⟨_, s, b, _, _, _⟩ => some (s, b)
theorem szL_eq {t : TI} {s b : Nat} (h : szL t = some (s, b)) : t.size = s ∧ t.bytes = b := by cases t; simp only [szL, Option.some.injEq, Prod.mk.injEq] at h; exact h
/-- append(s, y...), s owning its block, y another slice. -/
theorem OP.append {x y : Operand} {t t2 e e2 : TypeId} {ti tsl tsl2 : TI} {a a2 : Option Addr} {n cap m c2 sz by_ : Nat} {cs ds : List Value} {F : List Assn} (ho : o.op = .call ⟨.builtin .append, #[x, y], #[t, t2]⟩)
    (hx : rd none env x = some (none, .slice a n cap)) (hy : rd none env y = some (none, .slice a2 m c2)) (ht : G.T.find t = some tsl) (htd : tsl.desc = .slice e) (hte : G.T.find e = some ti) (hsz : szL ti = some (sz, by_)) (ht2 : G.T.find t2 = some tsl2) (htd2 : tsl2.desc = .slice e2)
    (hL : Imp L (ownS a n cap e sz cs :: F)) (hr : Ent L (readS a2 m sz ds)) (hone : allOne ds = true) (hb : (n + m) * by_ ≤ 140737488355328) (hmax : n + m ≤ 9223372036854775807)
    (hd : o.dst = some d) (hN : Nat.blt d N = true) (h : ∀ a' cap', post ((d, .val (.slice a' (n + m) cap')) :: env) (ownS a' (n + m) cap' e sz (cs ++ ds) :: F)) : OP G N o env L post := .mk fun ac w ha hs => by
  obtain ⟨e1, e2⟩ := szL_eq hsz
  have hu2 : G.P.underlying t2 = some (.slice _) := htd2 ▸ (Tab.find_ok G.ok ht2).desc
  obtain ⟨a', cap', w', r, s⟩ := run_append (ty := o.type) (y := .slice a2 m c2) (t2 := t2) G.ok ht htd hte (e1.symm ▸ hL.sat hs) (fun w' e => appends_slice hu2 (e1.symm ▸ e ▸ hr _ hs)) hone (e2.symm ▸ hb) hmax
  unfold Oper.wp
  have : (execOp ac.eval o).run G.P w = .ok (.value (.slice a' (n + m) cap')) w' := by
    rw [execOp, ho]
    simp only [resolve, Sem.run_bind, Sem.run_pure, Result.andThen_ok, invoke, builtin, List.map_toArray, List.map_cons, List.map_nil, rd_plain hx ha, rd_plain hy ha, r]
  rw [this]
  simp only [Oper.upon, hd]
  rw [e1] at s
  exact ⟨_, _, ha.put hN _, s, h a' cap'⟩
theorem OP.appendStr {x y : Operand} {t t2 e : TypeId} {ti tsl tsl2 : TI} {a : Option Addr} {n cap : Nat} {cs : List Value} {sv : ByteArray} {F : List Assn} (ho : o.op = .call ⟨.builtin .append, #[x, y], #[t, t2]⟩)
    (hx : rd none env x = some (none, .slice a n cap)) (hy : rd none env y = some (none, .string sv)) (ht : G.T.find t = some tsl) (htd : tsl.desc = .slice e) (hte : G.T.find e = some ti) (hsz : ti.size = 1) (hby : ti.bytes = 1) (ht2 : G.T.find t2 = some tsl2) (htd2 : tsl2.desc = .string)
    (hL : Imp L (ownS a n cap e 1 cs :: F)) (hb : n + sv.size ≤ 140737488355328)
    (hd : o.dst = some d) (hN : Nat.blt d N = true) (h : ∀ a' cap', post ((d, .val (.slice a' (n + sv.size) cap')) :: env) (ownS a' (n + sv.size) cap' e 1 (cs ++ strCells sv) :: F)) : OP G N o env L post := .mk fun ac w ha hs => by
  have hu2 : G.P.underlying t2 = some .string := htd2 ▸ (Tab.find_ok G.ok ht2).desc
  have hone : allOne (strCells sv) = true := by
    unfold strCells
    generalize sv.data.toList = l
    induction l with
    | nil => rfl
    | cons x r ih => simpa [allOne, one, byteV] using ih
  obtain ⟨a', cap', w', r, s⟩ := run_append (ty := o.type) (y := .string sv) (t2 := t2) (m := sv.size) (ds := strCells sv) (cs := cs) G.ok ht htd hte (by rw [hsz]; exact hL.sat hs) (fun w' _ => by rw [hsz]; exact appends_string hu2 sv w') hone (by rw [hby]; omega) (by omega)
  unfold Oper.wp
  have : (execOp ac.eval o).run G.P w = .ok (.value (.slice a' (n + sv.size) cap')) w' := by
    rw [execOp, ho]
    simp only [resolve, Sem.run_bind, Sem.run_pure, Result.andThen_ok, invoke, builtin, List.map_toArray, List.map_cons, List.map_nil, rd_plain hx ha, rd_plain hy ha, r]
  rw [this]
  simp only [Oper.upon, hd]
  rw [hsz] at s
  exact ⟨_, _, ha.put hN _, s, h a' cap'⟩
end
end
end Go.GL
/- Struct and slice literals; bytes and strings; make. -/
namespace Go.GL
open Go

/-- the parts of a literal, laid over its zero value: (place, size) by the part's number -/
def fillL (place : Nat → Option (Nat × Nat)) : List Value → List (Nat × Value) → Option (List Value)
  | c, [] => some c
  | c, (i, v) :: r => match place i, cellsOf v with
    | some (off, size), some vs => match Nat.beq vs.length size, setMany c off vs with
      | true, some c' => fillL place c' r
      | _, _ => none
    | _, _ => none
theorem foldl_set (vs : List Value) : ∀ (c : List Value) (off k : Nat) (c' : List Value), setMany c (off + k) vs = some c' →
    (vs.zipIdx k).foldl (fun cs x => Array.setIfInBounds cs (off + x.2) x.1) c.toArray = c'.toArray ∧ c'.length = c.length ∧ off + k + vs.length ≤ c.length + (if vs = [] then off + k else 0) := by
  induction vs with
  | nil =>
    intro c off k c' h
    simp only [setMany, Option.some.injEq] at h
    subst h
    exact ⟨rfl, rfl, by simp⟩
  | cons v vs ih =>
    intro c off k c' h
    simp only [setMany] at h
    split at h
    · rename_i c2 hc2
      obtain ⟨e, hlt⟩ := setOne_eq hc2
      obtain ⟨h1, h2, h3⟩ := ih c2 off (k + 1) c' h
      rw [List.zipIdx_cons, List.foldl_cons]
      have : Array.setIfInBounds c.toArray (off + k) v = c2.toArray := by rw [e]; simp
      simp only [this]
      refine ⟨h1, by rw [h2, e]; simp, ?_⟩
      have hl : c2.length = c.length := by rw [e]; simp
      cases vs with
      | nil => simp; omega
      | cons x y => simp at h3 ⊢; omega
    · cases h
theorem fill_eq {place place' : Nat → Option (Nat × Nat)} (hpp : ∀ i x, place i = some x → place' i = some x) : ∀ {parts : List (Nat × Value)} {c c' : List Value}, (∀ i off size, place i = some (off, size) → off + size ≤ c.length) → fillL place c parts = some c' → Instr.fill place' c.toArray parts = some c'.toArray
  | [], c, c', _, h => by simp only [fillL, Option.some.injEq] at h; subst h; rfl
  | (i, v) :: r, c, c', hp, h => by
    simp only [fillL] at h
    split at h
    · rename_i off size vs hpl hvs
      split at h
      · rename_i c2 hb hs
        have hlen := Nat.eq_of_beq_eq_true hb
        obtain ⟨h1, h2, _⟩ := foldl_set vs c off 0 c2 hs
        have hle := hp _ _ _ hpl
        have hc := cellsOf_eq hvs
        simp only [Instr.fill, hpp _ _ hpl, hc, List.size_toArray, hlen]
        rw [if_neg (by simp; omega)]
        have : Array.foldl (fun cs x => Array.setIfInBounds cs (off + x.2) x.1) c.toArray (vs.toArray.zipIdx) = c2.toArray := by
          rw [← h1]
          simp
        rw [this]
        exact fill_eq hpp (fun i off size e => by rw [h2]; exact hp i off size e) h
      · cases h
    · cases h

def rdParts (env : Env) : List (Nat × Operand) → Option (List (Nat × Value))
  | [] => some []
  | (i, x) :: r => match rd none env x with
    | some (none, v) => match rdParts env r with
      | some l => some ((i, v) :: l)
      | none => none
    | _ => none
theorem rdParts_ok {N : Nat} {env : Env} {a : Act} (ha : Agree N env a) : ∀ {xs : List (Nat × Operand)} {vs : List (Nat × Value)}, rdParts env xs = some vs → xs.map (fun x => (x.1, a.eval x.2)) = vs
  | [], vs, h => by cases h; rfl
  | (i, x) :: r, vs, h => by
    simp only [rdParts] at h
    split at h
    · rename_i v hv
      split at h
      · rename_i l hl; cases h; rw [List.map_cons, rd_plain hv ha, rdParts_ok ha hl]
      · cases h
    · cases h
def sPlaces (T : Tab) : List Field → Option (List (Nat × Nat))
  | [] => some []
  | f :: r => match T.find f.type, sPlaces T r with
    | some ti, some l => some ((f.offset, ti.size) :: l)
    | _, _ => none
def nthP : List (Nat × Nat) → Nat → Option (Nat × Nat)
  | [], _ => none
  | v :: _, 0 => some v
  | _ :: r, n + 1 => nthP r n
theorem nthP_eq (l : List (Nat × Nat)) (n : Nat) : nthP l n = l[n]? := by
  induction l generalizing n with
  | nil => rfl
  | cons v r ih => cases n <;> simp [nthP, ih]
def allFit (n : Nat) : List (Nat × Nat) → Bool
  | [] => true
  | (o, s) :: r => match Nat.ble (o + s) n with
    | true => allFit n r
    | false => false
theorem allFit_ok {n : Nat} {l : List (Nat × Nat)} (h : allFit n l = true) : ∀ (i o s : Nat), l[i]? = some (o, s) → o + s ≤ n := by
  induction l with
  | nil => intro i o s e; simp at e
  | cons x r ih =>
    obtain ⟨o', s'⟩ := x
    simp only [allFit] at h
    split at h
    · rename_i hb
      intro i o s e
      cases i with
      | zero => simp at e; obtain ⟨rfl, rfl⟩ := e; exact Nat.le_of_ble_eq_true hb
      | succ i => exact ih h i o s (by simpa using e)
    · cases h
/-- a struct's literal -/
def evBuild (T : Tab) (env : Env) (t : TypeId) (parts : List (Nat × Operand)) : Option Value :=
  match T.find t with
  | some ⟨.struct fs, _, _, z, true, _⟩ => match sPlaces T fs.toList, rdParts env parts with
    | some pl, some ps => match allFit z.length pl, fillL (nthP pl) z ps with
      | true, some c => some (.agg c.toArray)
      | _, _ => none
    | _, _ => none
  | some ⟨.array n e, _, _, z, true, _⟩ => match T.find e, rdParts env parts with
    | some ti, some ps => match Nat.beq (n * ti.size) z.length, fillL (fun i => match Nat.blt i n with | true => some (i * ti.size, ti.size) | false => none) z ps with
      | true, some c => some (.agg c.toArray)
      | _, _ => none
    | _, _ => none
  | _ => none
section
variable {G : Ctx} {N : Nat} {env : Env} {L : List Assn} {o : Oper} {post : Env → List Assn → Prop} {d : Nat}
theorem run_places {P : Program} {T : Tab} (hT : T.ok P) (w : World) : ∀ {fs : List Field} {pl : List (Nat × Nat)}, sPlaces T fs = some pl → (fs.mapM (fun f => do Pure.pure (f.offset, ← sizeOf f.type) : Field → Sem (Nat × Nat))).run P w = .ok pl w
  | [], pl, h => by cases h; simp
  | f :: r, pl, h => by
    simp only [sPlaces] at h
    split at h
    · rename_i ti l h1 h2
      cases h
      have ih := run_places hT w h2
      simp only [bind_pure_comp] at ih ⊢
      simp [run_size (Tab.find_ok hT h1), ih]
    · cases h
theorem val_run' {P : Program} {s : Sem Value} {v : Value} {w w' : World} (h : s.run P w = .ok v w') : (do Pure.pure (Next.value (← s)) : Sem Next).run P w = .ok (.value v) w' := by
  simp only [Sem.run_bind, h, Result.andThen_ok, Sem.run_pure]
theorem zero_agg {ti : TI} (h : ti.agg = true) : (zeroOf ti).cells = ti.zero.toArray := by simp [zeroOf, h, Value.cells]
theorem OP.buildT {t : TypeId} {ps : List (Nat × Operand)} {v : Value} (ho : o.op = .build t ps.toArray) (hv : evBuild G.T env t ps = some v) (hd : o.dst = some d) (hN : Nat.blt d N = true) (h : post ((d, .val v) :: env) L) : OP G N o env L post :=
  .run (fun a w ha _ => by
    rw [execOp, ho]
    refine val_run ?_
    unfold evBuild at hv
    split at hv
    · rename_i fs sz by_ z cm ht
      have e := Tab.find_ok G.ok ht
      split at hv
      · rename_i pl pv hpl hpv
        split at hv
        · rename_i c hfit hfill
          cases hv
          have hpv' := rdParts_ok ha hpv
          have hp := run_places (P := G.P) G.ok w hpl
          have hf := fill_eq (place' := nthP pl) (fun _ _ h => h) (fun i off size ei => allFit_ok hfit i off size (by rw [← nthP_eq]; exact ei)) hfill
          have hun : G.P.underlying t = some (.struct fs) := e.desc
          have hz : (zeroOf ⟨.struct fs, sz, by_, z, true, cm⟩).cells = z.toArray := zero_agg rfl
          have hmap : (fs.mapM (fun f => do Pure.pure (f.offset, ← sizeOf f.type) : Field → Sem (Nat × Nat))).run G.P w = .ok pl.toArray w := by
            obtain ⟨fl⟩ := fs
            rw [List.mapM_toArray]
            simp only [Sem.run_map]
            rw [hp]; rfl
          have hplace : (fun i => pl.toArray[i]?) = nthP pl := by funext i; rw [nthP_eq]; simp
          simp only [Instr.build, Sem.run_bind, run_zero e, Result.andThen_ok, run_underlying hun, hz, hmap, List.map_toArray, hpv', hplace, hf, Sem.run_pure]
        · cases hv
      · cases hv
    · rename_i n el sz by_ z cm ht
      have e := Tab.find_ok G.ok ht
      split at hv
      · rename_i ti pv hti hpv
        split at hv
        · rename_i c hb hfill
          cases hv
          have hpv' := rdParts_ok ha hpv
          have hlen := Nat.eq_of_beq_eq_true hb
          have hf := fill_eq (place' := fun i => some (i * ti.size, ti.size)) (fun i x hx => by
              split at hx
              · exact hx
              · cases hx) (fun i off size ei => by
              split at ei
              · rename_i hlt
                cases ei
                have hlt : i < n := by simpa [Nat.blt_eq] using hlt
                rw [← hlen, ← Nat.succ_mul]
                exact Nat.mul_le_mul_right _ hlt
              · cases ei) hfill
          have hun : G.P.underlying t = some (.array n el) := e.desc
          have hz : (zeroOf ⟨.array n el, sz, by_, z, true, cm⟩).cells = z.toArray := zero_agg rfl
          simp only [Instr.build, Sem.run_bind, run_zero e, Result.andThen_ok, run_underlying hun, hz, run_size (Tab.find_ok G.ok hti), List.map_toArray, hpv', hf, Sem.run_pure]
        · cases hv
      · cases hv
    · cases hv) hd hN h

def repL (z : List Value) : Nat → List Value
  | 0 => []
  | n + 1 => z ++ repL z n
theorem repL_length (z : List Value) (n : Nat) : (repL z n).length = n * z.length := by
  induction n with
  | zero => simp [repL]
  | succ n ih => simp [repL, ih, Nat.succ_mul, Nat.add_comm]
theorem repL_get (z : List Value) (n i : Nat) (h : i < n * z.length) : (repL z n)[i]? = z[i % z.length]? := by
  induction n generalizing i with
  | zero => simp at h
  | succ n ih =>
    unfold repL
    rw [Nat.succ_mul] at h
    by_cases hi : i < z.length
    · rw [List.getElem?_append_left hi, Nat.mod_eq_of_lt hi]
    · rw [List.getElem?_append_right (by omega), ih _ (by omega)]
      congr 1
      have : i = (i - z.length) + z.length := by omega
      conv => rhs; rw [this]
      rw [Nat.add_mod_right]
theorem rep_eq (z : Array Value) (n : Nat) : (Array.range (n * z.size)).map (fun i => z[i % z.size]!) = (repL z.toList n).toArray := by
  apply Array.ext
  · simp [repL_length]
  · intro i h1 h2
    have hi : i < n * z.toList.length := by simpa using h1
    have hpos : 0 < z.size := by
      rcases Nat.eq_zero_or_pos z.size with h | h
      · simp [h] at h1
      · exact h
    have := repL_get z.toList n i hi
    have hlt : i % z.size < z.size := Nat.mod_lt _ hpos
    simp only [Array.length_toList] at this
    have e1 : (repL z.toList n).toArray[i] = (repL z.toList n)[i]'(by simpa using h2) := by simp
    rw [e1]
    have h3 : (repL z.toList n)[i]? = some ((repL z.toList n)[i]'(by simpa using h2)) := List.getElem?_eq_getElem _
    rw [this] at h3
    simp [hlt] at h3
    rw [← h3]
    simp [hlt]
/-- a slice's literal: a new block -/
def evSliceLit (T : Tab) (env : Env) (e len : Nat) (parts : List (Nat × Operand)) : Option (List Value) :=
  match T.find e, rdParts env parts with
  | some ti, some ps => match Nat.ble (len * ti.size) 1000, Nat.ble 1 (len * ti.size) with
    | true, true => fillL (fun i => match Nat.blt i len with | true => some (i * ti.size, ti.size) | false => none) (repL ti.zero len) ps
    | _, _ => none
  | _, _ => none
theorem OP.sliceLit {t e len sz by_ : Nat} {ps : List (Nat × Operand)} {ti tsl : TI} {c : List Value} (ho : o.op = .buildSlice t len ps.toArray) (ht : G.T.find t = some tsl) (htd : tsl.desc = .slice e) (hte : G.T.find e = some ti) (hsz : szL ti = some (sz, by_)) (hv : evSliceLit G.T env e len ps = some c) (hd : o.dst = some d) (hN : Nat.blt d N = true)
    (h : ∀ b, post ((d, .val (.slice (some ⟨b, 0, none⟩) len len)) :: env) (ownS (some ⟨b, 0, none⟩) len len e sz c :: L)) : OP G N o env L post := .mk fun a w ha hs => by
  have hz1 := (szL_eq hsz).1
  subst hz1
  have eT := Tab.find_ok G.ok ht
  have eE := Tab.find_ok G.ok hte
  have hun : G.P.underlying t = some (.slice e) := htd ▸ eT.desc
  unfold evSliceLit at hv
  rw [hte] at hv
  split at hv
  · rename_i ti' ps' e1 hps
    cases e1
    split at hv
    · rename_i hb1 hb2
      have hb1 := Nat.le_of_ble_eq_true hb1
      have hb2 := Nat.le_of_ble_eq_true hb2
      have hpv' := rdParts_ok ha hps
      have hf := fill_eq (place' := fun i => some (i * ti.size, ti.size)) (fun i x hx => by
          split at hx
          · exact hx
          · cases hx) (fun i off size ei => by
          split at ei
          · rename_i hlt
            cases ei
            have hlt : i < len := by simpa [Nat.blt_eq] using hlt
            rw [repL_length, eE.zero, ← Nat.succ_mul]
            exact Nat.mul_le_mul_right _ hlt
          · cases ei) hv
      have hclen : c.length = len * ti.size := by
        have key : ∀ {place : Nat → Option (Nat × Nat)} (ps : List (Nat × Value)) (c c' : List Value), fillL place c ps = some c' → c'.length = c.length := by
          intro place ps
          induction ps with
          | nil => intro c c' h; simp only [fillL, Option.some.injEq] at h; rw [h]
          | cons x r ih =>
            obtain ⟨i, v⟩ := x
            intro c c' h
            simp only [fillL] at h
            split at h
            · split at h
              · rename_i hs
                rw [ih _ _ h, (foldl_set _ _ _ 0 _ hs).2.1]
              · cases h
            · cases h
        rw [key _ _ _ hv, repL_length, eE.zero]
      have hz : (zeroOf ti).cells = ti.zero.toArray := eE.zcells
      have hzs : (zeroOf ti).cells.size = ti.size := by rw [hz]; simp [eE.zero]
      have hrep := rep_eq (zeroOf ti).cells len
      rw [hzs, hz] at hrep
      simp only at hrep
      unfold Oper.wp
      have : (execOp a.eval o).run G.P w = .ok (.value (.slice (some ⟨w.heap.size, 0, none⟩) len len)) { w with heap := w.heap.push (.cells c.toArray e) } := by
        rw [execOp, ho]
        refine val_run' ?_
        have h1 : ¬ (len * ti.size > 2 ^ 24) := by omega
        simp only [Instr.buildSlice, Sem.run_bind, run_underlying hun, Result.andThen_ok, run_size eE, h1, if_false]
        have h0 : ¬ (len * ti.size = 0) := by omega
        simp only [h0, if_false, Sem.run_bind, run_zero eE, Result.andThen_ok, Sem.run_pure, List.map_toArray, hpv', hz, List.size_toArray, eE.zero, hrep, hf]
        simp [newRow]
      rw [this]
      simp only [Oper.upon, hd]
      refine ⟨_, _, ha.put hN _, stars_head_mono (fun k hk => ⟨hclen, Nat.le_refl _, .inr ⟨_, [], [], rfl, by simp [hclen], by simpa using hk⟩⟩) (hs.new c e), h _⟩
    · cases hv
  · cases hv
end
end Go.GL
/- Bytes and strings, make. -/
namespace Go.GL
open Go
section
variable {G : Ctx} {N : Nat} {env : Env} {L : List Assn} {o : Oper} {post : Env → List Assn → Prop} {d : Nat}
theorem strCells_length (s : ByteArray) : (strCells s).length = s.size := by simp [strCells]
theorem push_all {f : Value → ByteArray → Sem (ForInStep ByteArray)} (hf : ∀ b s, f (byteV b) s = Pure.pure (.yield (s.push b))) (l : List UInt8) : ∀ (s : ByteArray) (P : Program) (w : World),
    (forIn (m := Sem) (l.map byteV) s f).run P w = .ok ⟨(s.data.toList ++ l).toArray⟩ w := by
  induction l with
  | nil => intro s P w; simp
  | cons b r ih =>
    intro s P w
    simp only [List.map_cons, List.forIn_cons, hf, Sem.run_bind, Sem.run_pure, Result.andThen_ok]
    rw [ih (s.push b) P w]
    simp
/-- string(b) -/
theorem OP.toStr {s t e : TypeId} {x : Operand} {a : Option Addr} {n cap : Nat} {sv : ByteArray} {tis tit tie : TI} (ho : o.op = .convert s t x) (hx : rd none env x = some (none, .slice a n cap)) (hs : G.T.find s = some tis) (hsd : tis.desc = .slice e) (ht : G.T.find t = some tit) (htd : tit.desc = .string)
    (hte : G.T.find e = some tie) (hed : tie.desc = .int .u8) (hr : Ent L (readS a n 1 (strCells sv))) (hd : o.dst = some d) (hN : Nat.blt d N = true) (h : post ((d, .val (.string sv)) :: env) L) : OP G N o env L post :=
  .run (fun ac w ha hsat => by
    have us : G.P.underlying s = some (.slice e) := hsd ▸ (Tab.find_ok G.ok hs).desc
    have ut : G.P.underlying t = some .string := htd ▸ (Tab.find_ok G.ok ht).desc
    have ue : G.P.underlying e = some (.int .u8) := hed ▸ (Tab.find_ok G.ok hte).desc
    rw [execOp, ho]
    refine val_run ?_
    obtain ⟨e1, hh⟩ := hr _ hsat
    simp only [convert, Sem.run_bind, run_underlying us, run_underlying ut, Result.andThen_ok, rd_plain hx ha, run_underlying ue]
    rcases hh with ⟨rfl, rfl⟩ | ⟨b, off, rfl, hc⟩
    · have : sv = ByteArray.empty := by
        rw [strCells_length] at e1
        have h0 : sv.size = 0 := by simpa using e1
        exact ByteArray.size_eq_zero_iff.1 h0
      simp [Conv.bytesToString, this]
    · have hl := run_cells (P := G.P) hc (strCells sv).length 0 #[] (by omega)
      simp only [List.drop_zero, Array.empty_append] at hl
      have e1 : (strCells sv).length = n := by simpa using e1
      have hl' : (loadCells ⟨b, off, none⟩ n).run G.P w = .ok (strCells sv).toArray w := by rw [← e1]; exact hl
      simp only [Conv.bytesToString, Sem.run_bind, hl', Result.andThen_ok]
      rw [List.forIn_toArray]
      unfold strCells
      rw [push_all (fun b s => by simp [byteV]) sv.data.toList ByteArray.empty G.P w]
      simp) hd hN h
/-- []byte(s) -/
theorem OP.toBytes {s t e : TypeId} {x : Operand} {sv : ByteArray} {tis tit tie : TI} (ho : o.op = .convert s t x) (hx : rd none env x = some (none, .string sv)) (hs : G.T.find s = some tis) (hsd : tis.desc = .string) (ht : G.T.find t = some tit) (htd : tit.desc = .slice e)
    (hte : G.T.find e = some tie) (hed : tie.desc = .int .u8) (hd : o.dst = some d) (hN : Nat.blt d N = true)
    (h : ∀ b cap, post ((d, .val (.slice (some ⟨b, 0, none⟩) sv.size cap)) :: env) (ownS (some ⟨b, 0, none⟩) sv.size cap e 1 (strCells sv) :: L)) : OP G N o env L post := .mk fun a w ha hsat => by
  have us : G.P.underlying s = some .string := hsd ▸ (Tab.find_ok G.ok hs).desc
  have ut : G.P.underlying t = some (.slice e) := htd ▸ (Tab.find_ok G.ok ht).desc
  have ue : G.P.underlying e = some (.int .u8) := hed ▸ (Tab.find_ok G.ok hte).desc
  have hfo : (Question.appendCap sv.size 0 e).forced = false := rfl
  obtain ⟨cap, hcap, hge⟩ : ∃ cap, (Question.appendCap sv.size 0 e).cut (w.tape w.drawn (Question.appendCap sv.size 0 e)) = cap ∧ sv.size ≤ cap := ⟨_, rfl, by simp only [Question.cut]; omega⟩
  have hlen : (strCells sv ++ List.replicate (cap - sv.size) (Value.int .u8 0)).length = cap := by simp [strCells_length]; omega
  have harr : Array.map (fun b : UInt8 => Value.int .u8 b.toNat) sv.data ++ Array.replicate (cap - sv.size) (Value.int .u8 0) = (strCells sv ++ List.replicate (cap - sv.size) (Value.int .u8 0)).toArray := by
    apply Array.ext'
    simp [strCells, byteV]
  obtain ⟨w', hr, hs'⟩ : ∃ w', (execOp a.eval o).run G.P w = .ok (.value (.slice (some ⟨w.heap.size, 0, none⟩) sv.size cap)) w' ∧ Sat (blk w.heap.size (strCells sv ++ List.replicate (cap - sv.size) (Value.int .u8 0)) e :: L) w' := by
    have h1 : Sat (blk w.heap.size (strCells sv ++ List.replicate (cap - sv.size) (Value.int .u8 0)) e :: L) { w.drew with heap := w.heap.push (.cells (strCells sv ++ List.replicate (cap - sv.size) (Value.int .u8 0)).toArray e) } := Sat.new (w := w.drew) hsat _ e
    refine ⟨({ w.drew with heap := w.heap.push (.cells (strCells sv ++ List.replicate (cap - sv.size) (Value.int .u8 0)).toArray e) } : World).freeze ⟨w.heap.size, cap, none⟩ 1, ?_, ?_⟩
    · rw [execOp, ho]
      refine val_run' ?_
      simp only [convert, Sem.run_bind, run_underlying us, run_underlying ut, Result.andThen_ok, rd_plain hx ha, run_underlying ue, Conv.stringToBytes, run_choose, hfo, hcap, Bool.false_eq_true, if_false, harr, newRow, run_newObj, Sem.run_pure, markStringish, run_shape]
      have : (World.shape? { w with heap := w.heap.push (.cells (strCells sv ++ List.replicate (cap - sv.size) (Value.int .u8 0)).toArray e), drawn := w.drawn + 1 } w.heap.size) = some (e, cap) := by
        simp [World.shape?]
        simpa using hlen
      simp only [this, run_freeze, Result.andThen_ok]
      rfl
    · obtain ⟨p1, p2, dj, ej, ⟨fr, hb1, hf1⟩, rest⟩ := h1
      have hpb : p2 (w.heap.size + 1) = none := by
        rcases dj (w.heap.size + 1) with x | x
        · rw [x] at hb1; cases hb1
        · exact x
      refine ⟨fun b => if b = w.heap.size + 1 then some (.obj (.cells (strCells sv ++ List.replicate (cap - sv.size) (Value.int .u8 0)).toArray e (cap, cap + 1))) else p1 b, p2, ?_, ?_, ⟨(cap, cap + 1), by simp, .inr (by rw [hlen]; exact Nat.le_refl _)⟩, rest⟩
      · intro b
        by_cases hb : b = w.heap.size + 1
        · subst hb; exact .inr hpb
        · simp only [hb, if_false]; exact dj b
      · funext b
        have := congrFun ej b
        cases b with
        | zero => simpa [hpOf, Hp.join, World.freeze] using this
        | succ b =>
          unfold hpOf at *
          simp only [World.freeze, if_neg (show ¬ (1 = 0) by omega)]
          rw [Array.getElem?_modify]
          by_cases hb : b = w.heap.size
          · subst hb
            simp [Hp.join]
          · have hb' : ¬ w.heap.size = b := fun e => hb e.symm
            have hb2 : ¬ (b + 1 = w.heap.size + 1) := by omega
            simp only [hb', if_false, Hp.join, hb2]
            exact this
  unfold Oper.wp
  rw [hr]
  simp only [Oper.upon, hd]
  refine ⟨_, _, ha.put hN _, stars_head_mono (fun k hk => ⟨by simp [strCells_length], hge, .inr ⟨_, [], List.replicate (cap - sv.size) (Value.int .u8 0), rfl, by simp [strCells_length]; omega, by simpa using hk⟩⟩) hs', h _ _⟩
end
end Go.GL
/- Small steps of a walk. -/
namespace Go.GL
open Go
section
variable {G : Ctx} {N : Nat} {env : Env} {L : List Assn} {k : Kont} {ops : Array Oper} {rest : List Oper} {o : Oper}
theorem seqK.exit {y : Code} {i : Nat} (h : k (.exit i) env L) : seqK G N y k (.exit i) env L := h
theorem seqK.ret {y : Code} (h : k .ret env L) : seqK G N y k .ret env L := h
theorem blockK.hit {id i : Nat} (hb : Nat.beq i id = true) (h : k .normal env L) : blockK id k (.exit i) env L := by simp only [blockK, hb]; exact h
theorem blockK.miss {id i : Nat} (hb : Nat.beq i id = false) (h : k (.exit i) env L) : blockK id k (.exit i) env L := by simp only [blockK, hb]; exact h
theorem blockK.normal {id : Nat} (h : k .normal env L) : blockK id k .normal env L := h
theorem blockK.ret {id : Nat} (h : k .ret env L) : blockK id k .ret env L := h
theorem loopK.exit {n : Env → List Assn → Prop} {i : Nat} (h : k (.exit i) env L) : loopK n k (.exit i) env L := h
theorem loopK.ret {n : Env → List Assn → Prop} (h : k .ret env L) : loopK n k .ret env L := h
theorem loopK.go {n : Env → List Assn → Prop} (h : n env L) : loopK n k .normal env L := h
theorem WC.condT {c : Operand} {x y : Code} (hc : rd none env c = some (none, .bool true)) (h : WC G N x env L k) : WC G N (.cond c x y) env L k := .cond hc (fun _ => h) (fun e => by cases e)
theorem WC.condF {c : Operand} {x y : Code} (hc : rd none env c = some (none, .bool false)) (h : WC G N y env L k) : WC G N (.cond c x y) env L k := .cond hc (fun e => by cases e) (fun _ => h)
theorem WL.guardT {j t : Nat} {want : Bool} {oj : Oper} (hg : o.guard = some (j, want)) (hj : ops[j]? = some oj) (ht : oj.dst = some t) (hq : gdOf env t want = some true) (h : OP G N o env L (fun e M => WL G N ops rest e M k)) : WL G N ops (o :: rest) env L k := .mk fun a w ha hs => by
  have hw := gdOf_ok ha hq hj ht hg
  unfold wpList
  rw [hw, if_pos rfl]
  exact .inl (wp_oper_mono (fun a w ⟨e, M, x, y, z⟩ => z a w x y) (fun _ _ _ h => h.elim) (h a w ha hs))
theorem WL.guardF {j t d : Nat} {want : Bool} {oj : Oper} (hg : o.guard = some (j, want)) (hj : ops[j]? = some oj) (ht : oj.dst = some t) (hq : gdOf env t want = some false) (hd : o.dst = some d) (hN : Nat.blt d N = true) (h : WL G N ops rest ((d, .val undef) :: env) L k) : WL G N ops (o :: rest) env L k := .mk fun a w ha hs => by
  have hw := gdOf_ok ha hq hj ht hg
  unfold wpList
  rw [hw, if_neg (by simp), hd]
  exact h _ w (ha.put hN _) hs
section
variable {post : Env → List Assn → Prop} {d : Nat} {nw : Bool} {c : Option Prop} {p : Prop} [Decidable p]
theorem OP.decT (he : ev G.T nw none env o.op = some (c, .bool (decide p))) (hc : Holds c) (hp : p) (hd : o.dst = some d) (hN : Nat.blt d N = true) (h : post ((d, .val (.bool true)) :: env) L) : OP G N o env L post :=
  .pureEq he hc (by simp [hp]) hd hN h
theorem OP.decF (he : ev G.T nw none env o.op = some (c, .bool (decide p))) (hc : Holds c) (hp : ¬ p) (hd : o.dst = some d) (hN : Nat.blt d N = true) (h : post ((d, .val (.bool false)) :: env) L) : OP G N o env L post :=
  .pureEq he hc (by simp [hp]) hd hN h
theorem OP.decNT (he : ev G.T nw none env o.op = some (c, .bool (!decide p))) (hc : Holds c) (hp : ¬ p) (hd : o.dst = some d) (hN : Nat.blt d N = true) (h : post ((d, .val (.bool true)) :: env) L) : OP G N o env L post :=
  .pureEq he hc (by simp [hp]) hd hN h
theorem OP.decNF (he : ev G.T nw none env o.op = some (c, .bool (!decide p))) (hc : Holds c) (hp : p) (hd : o.dst = some d) (hN : Nat.blt d N = true) (h : post ((d, .val (.bool false)) :: env) L) : OP G N o env L post :=
  .pureEq he hc (by simp [hp]) hd hN h
end
section
variable {post : Env → List Assn → Prop} {d : Nat} {x y z : Operand} {v : Value}
theorem OP.pickT (ho : o.op = .pick x y z) (hx : rd none env x = some (none, .bool true)) (hv : rd none env y = some (none, v)) (hd : o.dst = some d) (hN : Nat.blt d N = true) (h : post ((d, .val v) :: env) L) : OP G N o env L post :=
  .run (fun a w ha _ => by rw [execOp, ho]; simp [rd_plain hx ha, rd_plain hv ha, asBool]) hd hN h
theorem OP.pickF (ho : o.op = .pick x y z) (hx : rd none env x = some (none, .bool false)) (hv : rd none env z = some (none, v)) (hd : o.dst = some d) (hN : Nat.blt d N = true) (h : post ((d, .val v) :: env) L) : OP G N o env L post :=
  .run (fun a w ha _ => by rw [execOp, ho]; simp [rd_plain hx ha, rd_plain hv ha, asBool]) hd hN h
end
/-- What follows from the memory alone. -/
theorem WC.fact {c : Code} {p : Prop} (e : Ent L (fun _ => p)) (h : p → WC G N c env L k) : WC G N c env L k := .mk fun a w ha hs => h (e _ hs) a w ha hs
theorem WL.fact {p : Prop} (e : Ent L (fun _ => p)) (h : p → WL G N ops rest env L k) : WL G N ops rest env L k := .mk fun a w ha hs => h (e _ hs) a w ha hs
theorem OP.fact {p : Prop} {post : Env → List Assn → Prop} (e : Ent L (fun _ => p)) (h : p → OP G N o env L post) : OP G N o env L post := .mk fun a w ha hs => h (e _ hs) a w ha hs
/-- The two branches of a test meet again. -/
theorem WC.meet {x y : Code} (k' : Env → List Assn → Prop) (hx : WC G N x env L (fun e E M => match e with | .normal => k' E M | e => k e E M)) (hy : ∀ E M, k' E M → WC G N y E M k) : WC G N (.seq x y) env L k :=
  .seq (hx.mono (fun e E M h => by cases e <;> first | exact hy _ _ h | exact h))
theorem setMany_one {c : List Value} {n : Nat} (v : Value) (h : n < c.length) : setMany c n [v] = some (c.set n v) := by simp [setMany, setOne_lt v h]
theorem ret1 {p : Value → List Assn → Prop} {t : Nat} {v : Value} (h1 : Env.get env t = some (.val v)) (h2 : p v L) : retK G [.tmp t] p .ret env L := ⟨[v], ⟨v, [], rfl, h1, rfl⟩, h2⟩
theorem ret0 {p : Value → List Assn → Prop} (h2 : p (.tuple #[]) L) : retK G [] p .ret env L := ⟨[], rfl, h2⟩
theorem ret0n {p : Value → List Assn → Prop} (h2 : p (.tuple #[]) L) : retK G [] p .normal env L := ⟨[], rfl, h2⟩
theorem ret2 {p : Value → List Assn → Prop} {t u : Nat} {v x : Value} (h1 : Env.get env t = some (.val v)) (h2 : Env.get env u = some (.val x)) (h : p (.tuple #[v, x]) L) : retK G [.tmp t, .tmp u] p .ret env L :=
  ⟨[v, x], ⟨v, [x], rfl, h1, x, [], rfl, h2, rfl⟩, h⟩
theorem ret3 {p : Value → List Assn → Prop} {t u s : Nat} {v x y : Value} (h1 : Env.get env t = some (.val v)) (h2 : Env.get env u = some (.val x)) (h3 : Env.get env s = some (.val y)) (h : p (.tuple #[v, x, y]) L) : retK G [.tmp t, .tmp u, .tmp s] p .ret env L :=
  ⟨[v, x, y], ⟨v, [x, y], rfl, h1, x, [y], rfl, h2, y, [], rfl, h3, rfl⟩, h⟩
theorem retA {p : Value → List Assn → Prop} {t ty b off : Nat} {ti : TI} {l : List Value} (h1 : Env.get env t = some (.val (.pointer (some ⟨b, off, none⟩)))) (ht : G.T.find ty = some ti) (hg : ti.agg = true) (hl : l.length = ti.size) (hc : Ent L (cellsAt b off l)) (h : p (.agg l.toArray) L) :
    retK G [.cell t ty] p .ret env L := ⟨[.agg l.toArray], ⟨b, off, _, [], ti, rfl, h1, ht, .inr ⟨hg, l, rfl, hl, hc⟩, rfl⟩, h⟩

/-- an element of a slice of one-cell elements, under a reading of it -/
theorem Ent.elem {a : Option Addr} {n size i b off : Nat} {cs : List Value} {v : Value} (hr : Ent L (readS a n size cs)) (ha : a = some ⟨b, off, none⟩) (hv : cs[i]? = some v) : Ent L (cellAt b (off + i) v) := fun h s => by
  obtain ⟨e, ⟨rfl, _⟩ | ⟨b', off', e', c, T, fr, hb, hc⟩⟩ := hr h s
  · cases ha
  · rw [ha] at e'; cases e'
    exact ⟨c, T, fr, hb, hc i v hv⟩
theorem Ent.elems {a : Option Addr} {n size i b off : Nat} {cs l : List Value} (hr : Ent L (readS a n size cs)) (ha : a = some ⟨b, off, none⟩) (hl : l = (cs.drop i).take l.length) : Ent L (cellsAt b (off + i) l) := fun h s => by
  obtain ⟨e, ⟨rfl, _⟩ | ⟨b', off', e', c, T, fr, hb, hc⟩⟩ := hr h s
  · cases ha
  · rw [ha] at e'; cases e'
    refine ⟨c, T, fr, hb, fun j v hj => ?_⟩
    have : cs[i + j]? = some v := by
      rw [hl, List.getElem?_take] at hj
      split at hj
      · simpa using hj
      · cases hj
    have := hc (i + j) v this
    rwa [← Nat.add_assoc] at this
/-- a slice with an element has an array -/
theorem Ent.some {a : Option Addr} {n size : Nat} {cs : List Value} (hr : Ent L (readS a n size cs)) (hn : 0 < n) : Ent L (fun _ => ∃ b off, a = some ⟨b, off, none⟩) := fun h s => by
  obtain ⟨_, ⟨_, e⟩ | ⟨b, off, e, _⟩⟩ := hr h s
  · omega
  · exact ⟨b, off, e⟩
theorem Ent.len {a : Option Addr} {n size : Nat} {cs : List Value} (hr : Ent L (readS a n size cs)) : Ent L (fun _ => cs.length = n * size) := fun h s => (hr h s).1
theorem cellsAt_sub {b off i : Nat} {l l' : List Value} {h : Hp} (x : cellsAt b off l h) (e : l' = (l.drop i).take l'.length) : cellsAt b (off + i) l' h := by
  obtain ⟨c, T, fr, hb, hc⟩ := x
  refine ⟨c, T, fr, hb, fun j v hj => ?_⟩
  have : l[i + j]? = Option.some v := by
    rw [e, List.getElem?_take] at hj
    split at hj
    · simpa using hj
    · cases hj
  have := hc (i + j) v this
  rwa [← Nat.add_assoc] at this
theorem cellsAt_one {b off i : Nat} {l : List Value} {v : Value} {h : Hp} (x : cellsAt b off l h) (e : l[i]? = Option.some v) : cellAt b (off + i) v h := by
  obtain ⟨c, T, fr, hb, hc⟩ := x
  exact ⟨c, T, fr, hb, hc i v e⟩
theorem Ent.sub {b off i : Nat} {l l' : List Value} (x : Ent L (cellsAt b off l)) (e : l' = (l.drop i).take l'.length) : Ent L (cellsAt b (off + i) l') := fun h s => cellsAt_sub (x h s) e
theorem Ent.one {b off i : Nat} {l : List Value} {v : Value} (x : Ent L (cellsAt b off l)) (e : l[i]? = Option.some v) : Ent L (cellAt b (off + i) v) := fun h s => cellsAt_one (x h s) e
theorem Ent.whole {b : Nat} {c : List Value} {T : TypeId} (m : GL.blk b c T ∈ L) : Ent L (cellsAt b 0 c) := Ent.mem m (up_blk b c T) fun h ⟨fr, hb, _⟩ => ⟨_, T, fr, hb, fun i v hi => by simpa using hi⟩
/-- A call that changes nothing that was there, and makes new memory 'E': where 'R' holds. -/
structure RT (G : Ctx) (f : FuncId) (args : List Value) (R : Assn) (p : Value → List Assn → Prop) : Prop where
  enters : Enters G.P f
  calls : ∀ M w, Ent M R → Sat M w → Calls G.P f args.toArray w (fun e w' => ∃ v E, e = .returned v ∧ p v E ∧ Sat (E ++ M) w')
theorem RT.enter {f : FuncId} {fn : Func} {c : Code} {vs : List Value} {rs : List ResultVar} {R : Assn} {p : Value → List Assn → Prop} (hf : G.P.funcs[f]? = Option.some fn) (hb : fn.body = Option.some c) (hname : (fn.name == "runtime.NumGoroutine") = false) (hr : fn.results = rs.toArray) (hn : fn.ntmps = N)
    (hv : Nat.ble vs.length N = true) (h : ∀ A, Up A → (∀ k, A k → R k) → WC G N c (args0 0 vs) [A] (retK G rs (fun v M => ∃ E, p v E ∧ Imp M (E ++ [A])))) : RT G f vs R p :=
  ⟨⟨fn, c, hf, hname, hb⟩, fun M w he hs => (body_calls hf hb hr hn hv (h (stars M) (up_stars M) he) w (stars_one.1 hs)).mono fun _ _ ⟨v, _, e, ⟨E, h1, h2⟩, s⟩ => ⟨v, E, e, h1, stars_app_one.2 (h2 _ s)⟩⟩
theorem RO.rt {f : FuncId} {args : List Value} {R : Assn} {v : Value} (h : RO G f args R v) : RT G f args R (fun v' E => v' = v ∧ E = []) :=
  ⟨h.enters, fun _ w he hs => (h.calls w (he _ hs)).mono fun _ _ ⟨e, x⟩ => ⟨v, [], e, ⟨rfl, rfl⟩, hs.ext x⟩⟩
theorem RT.triple {f : FuncId} {args : List Value} {R : Assn} {p : Value → List Assn → Prop} (h : RT G f args R p) {M : List Assn} (he : Ent M R) : Triple G f args M (fun v M' => ∃ E, p v E ∧ M' = E ++ M) :=
  ⟨h.enters, fun F w hs => (h.calls (M ++ F) w (fun k s => he k (stars_append_left s)) hs).mono fun _ _ ⟨v, E, e, hp, s⟩ => ⟨v, E ++ M, e, ⟨E, hp, rfl⟩, by rw [List.append_assoc]; exact s⟩⟩
theorem OP.callRT {post : Env → List Assn → Prop} {d : Nat} {f : FuncId} {xs : List Operand} {ats : Array TypeId} {vs : List Value} {R : Assn} {p : Value → List Assn → Prop} (ho : o.op = .call ⟨.value (.func f), xs.toArray, ats⟩) (hv : rdAll env xs = Option.some vs) (ht : RT G f vs R p) (he : Ent L R)
    (hd : o.dst = Option.some d) (hN : Nat.blt d N = true) (h : ∀ v E, p v E → post ((d, .val v) :: env) (E ++ L)) : OP G N o env L post :=
  .call (F := []) ho hv (ht.triple he) (by rw [List.append_nil]; exact Imp.refl _) hd hN (fun v M ⟨E, e1, e2⟩ => by rw [List.append_nil, e2]; exact h v E e1)
theorem Ent.ownLe {a : Option Addr} {n cap size : Nat} {T : TypeId} {cs : List Value} (m : GL.ownS a n cap T size cs ∈ L) : Ent L (fun _ => n ≤ cap) := fun _ s => (stars_mem m (up_ownS _ _ _ _ _ _) s).2.1
theorem up_and {R S : Assn} (a : Up R) (b : Up S) : Up (fun h => R h ∧ S h) := fun h k l ⟨x, y⟩ => ⟨a h k l x, b h k l y⟩
end
end Go.GL
/- The arguments of a law, as cells: from what they read as. And the step from a call that only reads to a law's row. -/
namespace Go.GL
open Go Go.ChangeShapes Go.WideShapes Go.RowKit Go.Deep

/-- What one cell may hold. -/
inductive Lf
  | int (k : IntKind)
  | bool
  | str
def Lf.ok : Lf → Value → Prop
  | .int k, v => ∃ n, v = .int k n ∧ (Lit.int k n).wf = true
  | .bool, v => ∃ b, v = .bool b
  | .str, v => ∃ s, v = .string s ∧ s.size ≤ maxLen
def LfsOk : List Lf → List Value → Prop
  | [], [] => True
  | l :: r, v :: s => l.ok v ∧ LfsOk r s
  | _, _ => False
theorem LfsOk.len : ∀ {l : List Lf} {c : List Value}, LfsOk l c → c.length = l.length
  | [], [], _ => rfl
  | _ :: _, _ :: _, h => by simp [LfsOk.len h.2]
  | [], _ :: _, h => h.elim
  | _ :: _, [], h => h.elim
theorem LfsOk.app : ∀ {l m : List Lf} {c d : List Value}, LfsOk l c → LfsOk m d → LfsOk (l ++ m) (c ++ d)
  | [], _, [], _, _, h => h
  | _ :: _, _, _ :: _, _, h, k => ⟨h.1, LfsOk.app h.2 k⟩
  | [], _, _ :: _, _, h, _ => h.elim
  | _ :: _, _, [], _, h, _ => h.elim
theorem LfsOk.nil {x : List Value} (h : LfsOk [] x) : x = [] := by
  cases x with
  | nil => rfl
  | cons => exact h.elim
theorem LfsOk.int {k : IntKind} {r : List Lf} {x : List Value} (h : LfsOk (.int k :: r) x) : ∃ n s, x = .int k n :: s ∧ (Lit.int k n).wf = true ∧ LfsOk r s := by
  cases x with
  | nil => exact h.elim
  | cons v s => obtain ⟨⟨n, e, w⟩, z⟩ := h; exact ⟨n, s, by rw [e], w, z⟩
theorem LfsOk.bool {r : List Lf} {x : List Value} (h : LfsOk (.bool :: r) x) : ∃ b s, x = .bool b :: s ∧ LfsOk r s := by
  cases x with
  | nil => exact h.elim
  | cons v s => obtain ⟨⟨n, e⟩, z⟩ := h; exact ⟨n, s, by rw [e], z⟩
theorem LfsOk.str {r : List Lf} {x : List Value} (h : LfsOk (.str :: r) x) : ∃ b s, x = .string b :: s ∧ b.size ≤ maxLen ∧ LfsOk r s := by
  cases x with
  | nil => exact h.elim
  | cons v s => obtain ⟨⟨n, e, w⟩, z⟩ := h; exact ⟨n, s, by rw [e], w, z⟩
def leafsF (P : Program) (f : TypeId → Option (List Lf)) : Nat → List Field → Option (List Lf)
  | _, [] => some []
  | off, x :: r => match f x.type with
    | some a => if x.offset = off ∧ P.cellsOf x.type = a.length then (leafsF P f (off + a.length) r).map (a ++ ·) else none
    | none => none
/-- The cells of a type without slices and pointers. -/
def leafs (P : Program) : Nat → TypeId → Option (List Lf)
  | 0, _ => none
  | n + 1, t => match P.underlying t with
    | some (.int k) => some [.int k]
    | some .bool => some [.bool]
    | some .string => some [.str]
    | some (.struct fs) => match leafsF P (leafs P n) 0 fs.toList with
      | some l => if P.cellsOf t = l.length then some l else none
      | none => none
    | _ => none
section
variable {H : Type} {enc : TypeId × Value → H} {P : Program} {w : World} {base : Nat} {spare : Nat → Bool} {held : Bool}
theorem leafsF_ok {f : TypeId → Option (List Lf)} {q : TypeId → List Value → Prop} (hq : ∀ t a c, f t = some a → q t c → LfsOk a c) {cs : List Value} : ∀ (fs : List Field) (off : Nat) (l : List Lf), leafsF P f off fs = some l →
    (∀ x ∈ fs, q x.type ((cs.drop x.offset).take (P.cellsOf x.type))) → cs.length = off + l.length → LfsOk l (cs.drop off)
  | [], off, l, h, _, hl => by
    simp only [leafsF, Option.some.injEq] at h
    subst h
    rw [List.drop_eq_nil_of_le (by simp at hl; omega)]
    trivial
  | x :: r, off, l, h, hx, hl => by
    simp only [leafsF] at h
    split at h
    · rename_i a ha
      split at h
      · rename_i hc
        obtain ⟨m, hm, rfl⟩ := Option.map_eq_some_iff.1 h
        have h1 := hq _ _ _ ha (hx x List.mem_cons_self)
        rw [hc.1, hc.2] at h1
        have h2 := leafsF_ok hq r (off + a.length) m hm (fun y hy => hx y (List.mem_cons_of_mem _ hy)) (by rw [hl, List.length_append]; omega)
        have h3 := h1.app h2
        rw [← List.drop_drop, List.take_append_drop] at h3
        exact h3
      · cases h
    · cases h
theorem leafs_ok : ∀ (n : Nat) (t : TypeId) (l : List Lf) (cs : List Value), leafs P n t = some l → (∃ fuel x, DataW.trod enc P w base spare held fuel t cs = some x) → LfsOk l cs
  | 0, _, _, _, h, _ => by cases h
  | n + 1, t, l, cs, h, ⟨fuel, x, hx⟩ => by
    simp only [leafs] at h
    split at h
    · rename_i k hk
      cases h
      obtain ⟨z, rfl, _, hz⟩ := DataW.trod_int hk hx
      exact ⟨⟨z, rfl, hz⟩, trivial⟩
    · rename_i hk
      cases h
      obtain ⟨z, rfl, _⟩ := DataW.trod_bool hk hx
      exact ⟨⟨z, rfl⟩, trivial⟩
    · rename_i hk
      cases h
      obtain ⟨z, rfl, _, hz⟩ := DataW.trod_string hk hx
      exact ⟨⟨z, rfl, hz⟩, trivial⟩
    · rename_i fs hk
      split at h
      · rename_i l' hl'
        split at h
        · rename_i hc
          cases h
          obtain ⟨xs, m, _, _, hlen, hsz, hf⟩ := DataW.trod_struct hk hx
          have := leafsF_ok (P := P) (f := leafs P n) (q := fun t cs => ∃ fuel x, DataW.trod enc P w base spare held fuel t cs = some x) (fun t a c ha hy => leafs_ok n t a c ha hy) (cs := cs) fs.toList 0 l hl' (fun y hy => by
            obtain ⟨i, hi, rfl⟩ := List.getElem_of_mem hy
            have hi' : i < fs.size := by simpa using hi
            have := hf i fs[i] (by simp [hi'])
            rw [List.getElem?_eq_getElem (by omega)] at this
            exact ⟨m, _, by simpa using this⟩) (by omega)
          simpa using this
        · cases h
      · cases h
    · cases h

theorem cells?_row {a : Addr} {n : Nat} {cs : List Value} (h : w.cells? base a n = some cs) : cs.length = n ∧ ∀ i v, cs[i]? = some v → w.cell? (a.add i) = some v := by
  unfold World.cells? at h
  split at h
  · have hl := mapM_some_length h
    have hl : cs.length = n := by simpa using hl
    refine ⟨hl, fun i v hi => ?_⟩
    have hlt : i < n := by rw [← hl]; exact (List.getElem?_eq_some_iff.1 hi).1
    have := mapM_some_get h i i (by simp [hlt])
    rw [this, hi]
  · cases h

/-- A struct by value. -/
theorem open_val {n : Nat} {t : TypeId} {fs : Array Field} {v : Value} {d : DataW H} {p : List MemPlace} {r : Reach} {b0 : Nat} {l : List Lf} (hs : P.underlying t = some (.struct fs)) (hl : leafs P n t = some l)
    (hv : Value.okWide P w r b0 t v) (h : DataW.Trod enc P w base spare held t v d p) : ∃ cs : List Value, v = .agg cs.toArray ∧ LfsOk l cs := by
  obtain ⟨cs, rfl, _⟩ := okWide_struct hs hv
  obtain ⟨fuel, hf⟩ := h
  exact ⟨cs.toList, by simp, leafs_ok n t l _ hl ⟨fuel, _, hf⟩⟩
theorem has_block {r : Reach} {b0 : Nat} {a : Addr} {e : TypeId} {n : Nat} (h : w.has P r b0 a e n) : ∃ b off, a = ⟨b, off, none⟩ ∧ ∃ (c : Array Value) (T : TypeId) (fr : Nat × Nat), w.heap[b]? = some (.cells c T fr) := by
  obtain ⟨_, hs, row, cells, hsh, _⟩ := h
  obtain ⟨b, off, spot⟩ := a
  cases hs
  refine ⟨b, off, rfl, ?_⟩
  unfold World.shape? at hsh
  split at hsh
  · rename_i c T fr hh; exact ⟨c, T, fr, hh⟩
  · cases hsh
/-- A slice whose elements are such. -/
theorem open_row {n : Nat} {t e : TypeId} {v : Value} {d : DataW H} {p : List MemPlace} {r : Reach} {b0 : Nat} {l : List Lf} (hs : P.underlying t = some (.slice e)) (hl : leafs P n e = some l) (hc : P.cellsOf e = l.length)
    (hv : Value.okWide P w r b0 t v) (h : DataW.Trod enc P w base spare held t v d p) :
    ∃ (a : Option Addr) (len cap : Nat) (rows : List (List Value)), v = .slice a len cap ∧ rows.length = len ∧ len ≤ cap ∧ cap ≤ maxLen ∧ (∀ x ∈ rows, LfsOk l x) ∧ readS a len l.length rows.flatten (hpOf w) := by
  obtain ⟨a, len, cap, rfl⟩ := okWide_slice hs hv
  obtain ⟨fuel, hf⟩ := h
  rcases open_slice hs hf with ⟨hcs, _⟩ | ⟨x, l', c', m, n', D, Pl, hcs, _, hle, hmax, hm, _, hel⟩
  · simp [Value.cells] at hcs
    obtain ⟨rfl, rfl, rfl⟩ := hcs
    exact ⟨none, 0, 0, [], rfl, rfl, Nat.le_refl _, Nat.zero_le _, by simp, by simp, .inl ⟨rfl, rfl⟩⟩
  · simp [Value.cells] at hcs
    obtain ⟨rfl, rfl, rfl⟩ := hcs
    have hhas : w.has P r b0 x e cap := by
      simp only [Value.okWide, hs, Cell.okWide, Cell.ok] at hv
      exact hv.2.2
    obtain ⟨b, off, rfl, c, T, fr, hb⟩ := has_block hhas
    have hlm : len ≤ m := by rw [hm]; split <;> omega
    have hch : ∃ f : Nat → List Value, ∀ i, i < len → w.cells? base ((⟨b, off, none⟩ : Addr).add (i * P.cellsOf e)) (P.cellsOf e) = some (f i) ∧ LfsOk l (f i) := by
      refine choose_lt (α := List Value) (p := fun i c => w.cells? base ((⟨b, off, none⟩ : Addr).add (i * P.cellsOf e)) (P.cellsOf e) = some c ∧ LfsOk l c) fun i hi => ?_
      obtain ⟨cs', h1, h2⟩ := hel i (by omega)
      exact ⟨cs', h1, leafs_ok n e l cs' hl ⟨n', _, h2⟩⟩
    obtain ⟨f, hf'⟩ := hch
    have hrows : ∀ x ∈ (List.range len).map f, LfsOk l x := by
      intro x hx
      obtain ⟨i, hi, rfl⟩ := List.mem_map.1 hx
      exact (hf' i (List.mem_range.1 hi)).2
    have hlen : ∀ (rs : List (List Value)), (∀ x ∈ rs, LfsOk l x) → rs.flatten.length = rs.length * l.length := by
      intro rs
      induction rs with
      | nil => simp
      | cons x rs ih =>
        intro hx
        rw [List.flatten_cons, List.length_append, ih (fun y hy => hx y (List.mem_cons_of_mem _ hy)), (hx x List.mem_cons_self).len, List.length_cons, Nat.succ_mul]
        omega
    refine ⟨_, len, cap, (List.range len).map f, rfl, by simp, hle, hmax, hrows, by rw [hlen _ hrows]; simp, .inr ⟨b, off, rfl, c, T, fr, hpOf_obj.2 hb, ?_⟩⟩
    have key : ∀ (k : Nat), k ≤ len → ∀ j v, ((List.range k).map f).flatten[j]? = some v → c[off + j]? = some v := by
      intro k
      induction k with
      | zero => intro _ j v hj; simp at hj
      | succ k ih =>
        intro hk j v hj
        rw [List.range_succ, List.map_append, List.flatten_append] at hj
        by_cases hlt : j < ((List.range k).map f).flatten.length
        · rw [List.getElem?_append_left hlt] at hj
          exact ih (by omega) j v hj
        · rw [List.getElem?_append_right (by omega)] at hj
          have hfl := hlen ((List.range k).map f) (fun x hx => by
            obtain ⟨i, hi, rfl⟩ := List.mem_map.1 hx
            exact (hf' i (by have := List.mem_range.1 hi; omega)).2)
          simp only [List.length_map, List.length_range] at hfl
          simp only [List.map_cons, List.map_nil, List.flatten_cons, List.flatten_nil, List.append_nil] at hj
          have h2 := (cells?_row (hf' k (by omega)).1).2 _ _ hj
          rw [hfl] at h2 hlt
          rw [add_add, hc] at h2
          have e : k * l.length + (j - k * l.length) = j := by omega
          rw [e] at h2
          unfold World.cell? at h2
          have e2 : ((⟨b, off, none⟩ : Addr).add j).block = b ∧ ((⟨b, off, none⟩ : Addr).add j).off = off + j ∧ ((⟨b, off, none⟩ : Addr).add j).spot = none := by
            unfold Addr.add
            split
            · rename_i h0; have : j = 0 := by simpa using h0
              subst this; exact ⟨rfl, rfl, rfl⟩
            · exact ⟨rfl, rfl, rfl⟩
          rw [e2.1, hb, e2.2.1, e2.2.2] at h2
          simpa using h2
    exact key len (Nat.le_refl _)
end
theorem rows_enc {α : Type} {enc : α → List Value} {q : α → Prop} : ∀ {rows : List (List Value)}, (∀ x ∈ rows, ∃ o, x = enc o ∧ q o) → ∃ l : List α, rows.flatten = l.flatMap enc ∧ l.length = rows.length ∧ ∀ o ∈ l, q o
  | [], _ => ⟨[], rfl, rfl, fun _ h => nomatch h⟩
  | x :: r, h => by
    obtain ⟨o, rfl, ho⟩ := h x List.mem_cons_self
    obtain ⟨l, h1, h2, h3⟩ := rows_enc (rows := r) (fun y hy => h y (List.mem_cons_of_mem _ hy))
    refine ⟨o :: l, by simp [h1], by simp [h2], fun z hz => ?_⟩
    rcases List.mem_cons.1 hz with rfl | hz
    · exact ho
    · exact h3 z hz
theorem rows_ints {k : IntKind} {rows : List (List Value)} (h : ∀ x ∈ rows, LfsOk [.int k] x) : ∃ l : List Int, rows.flatten = l.map (Value.int k) ∧ l.length = rows.length ∧ ∀ n ∈ l, (Lit.int k n).wf = true := by
  obtain ⟨l, h1, h2, h3⟩ := rows_enc (enc := fun n => [Value.int k n]) (q := fun n => (Lit.int k n).wf = true) (rows := rows) (fun x hx => by
    obtain ⟨n, s, rfl, w, z⟩ := (h x hx).int
    exact ⟨n, by rw [z.nil], w⟩)
  exact ⟨l, by rw [h1]; clear h1 h2 h3; induction l with | nil => rfl | cons a r ih => simp [ih], h2, h3⟩
theorem rows_strs {rows : List (List Value)} (h : ∀ x ∈ rows, LfsOk [.str] x) : ∃ l : List ByteArray, rows.flatten = l.map Value.string ∧ l.length = rows.length ∧ ∀ s ∈ l, s.size ≤ maxLen := by
  obtain ⟨l, h1, h2, h3⟩ := rows_enc (enc := fun n => [Value.string n]) (q := fun s => s.size ≤ maxLen) (rows := rows) (fun x hx => by
    obtain ⟨n, s, rfl, w, z⟩ := (h x hx).str
    exact ⟨n, by rw [z.nil], w⟩)
  exact ⟨l, by rw [h1]; clear h1 h2 h3; induction l with | nil => rfl | cons a r ih => simp [ih], h2, h3⟩
theorem wf_u8 {n : Int} (h : (Lit.int .u8 n).wf = true) : 0 ≤ n ∧ n ≤ 255 := by
  simp [Lit.wf, IntKind.min, IntKind.max, IntKind.signed, IntKind.bits] at h
  omega
theorem wf_i64 {n : Int} (h : (Lit.int .i64 n).wf = true) : -9223372036854775808 ≤ n ∧ n ≤ 9223372036854775807 := by
  simp [Lit.wf, IntKind.min, IntKind.max, IntKind.signed, IntKind.bits] at h
  omega
theorem wf_u32 {n : Int} (h : (Lit.int .u32 n).wf = true) : 0 ≤ n ∧ n ≤ 4294967295 := by
  simp [Lit.wf, IntKind.min, IntKind.max, IntKind.signed, IntKind.bits] at h
  omega
theorem wf_u64 {n : Int} (h : (Lit.int .u64 n).wf = true) : 0 ≤ n ∧ n ≤ 18446744073709551615 := by
  simp [Lit.wf, IntKind.min, IntKind.max, IntKind.signed, IntKind.bits] at h
  omega
theorem byte_of {n : Int} (h : (Lit.int .u8 n).wf = true) : ∃ x : UInt8, n = (x.toNat : Int) := by
  have := wf_u8 h
  exact ⟨UInt8.ofNat n.toNat, by rw [UInt8.toNat_ofNat']; omega⟩
theorem rows_bytes {rows : List (List Value)} (h : ∀ x ∈ rows, LfsOk [.int .u8] x) : ∃ l : List UInt8, rows.flatten = l.map byteV ∧ l.length = rows.length ∧ True := by
  obtain ⟨l, h1, h2, _⟩ := rows_enc (enc := fun n => [byteV n]) (q := fun _ => True) (rows := rows) (fun x hx => by
    obtain ⟨n, s, rfl, w, z⟩ := (h x hx).int
    obtain ⟨y, rfl⟩ := byte_of w
    exact ⟨y, by rw [z.nil]; rfl, trivial⟩)
  exact ⟨l, by rw [h1]; clear h1 h2; induction l with | nil => rfl | cons a r ih => simp [ih], h2, trivial⟩
/-- Nothing that was there has turned. -/
theorem Ext.keptBut {w w' : World} (h : Ext w w') (may : MemPlace → Prop) : w.keptBut w' may := by
  refine ⟨h.os.1, h.os.2, fun i hi => ?_⟩
  rw [h.block hi]
  split <;> simp_all
theorem Ext.same {w w' : World} (h : Ext w w') {p : MemPlace} (hp : p.block < w.heap.size) : w.sameAt w' p := by
  cases p with
  | cell b o => exact World.cell?_of_block (w := w) (h.block hp)
  | map b => exact h.block hp
/-- An argument reads as it did. -/
theorem Ext.trod {H : Type} {enc : TypeId × Value → H} {P : Program} {t : TypeId} (hl : laidOutB P = true) (hr : P.readableRec t = true) (hrow : t < P.types.size) {W W' : World} {v : Value} {d : DataW H} {ps : List MemPlace}
    (h : DataW.Trod enc P W 0 (fun _ => true) true t v d ps) (hb : Ext W W') :
    DataW.Trod enc P W' 0 (fun b => decide (b < W.heap.size)) true t v d ps := by
  have hlt : ∀ x ∈ ps, x.block < W.heap.size := by obtain ⟨m, hm⟩ := h; exact DataW.trod_lt m _ _ _ hm
  exact WideElems.Trod_stays hl hr hrow h (fun x hx => hb.same (hlt x hx)) (fun x hx => by simpa using hlt x hx)
end Go.GL
