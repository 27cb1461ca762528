/- The symbolic state of a walk: what some temporaries hold, and one operation's value out of it. -/
import Derived.Test.YtkoakmaihcheaacDoorGLa
namespace Go.GL
open Go

/-- What is known of a type. -/
structure TI where
  desc : TypeDesc
  size : Nat
  bytes : Nat
  zero : List Value
  agg : Bool
  cmp : Bool
inductive Tab where
  | leaf
  | node (k : Nat) (v : TI) (l r : Tab)
def Tab.find : Tab → Nat → Option TI
  | .leaf, _ => none
  | .node k v l r, t => match Nat.beq t k with
    | true => some v
    | false => match Nat.ble t k with
      | true => l.find t
      | false => r.find t
def zeroOf (t : TI) : Value := match t.agg with
  | true => .agg t.zero.toArray
  | false => match t.zero with
    | v :: _ => v
    | [] => undef
def isAggD : TypeDesc → Bool
  | .struct _ => true
  | .array _ _ => true
  | _ => false
structure TIOk (P : Program) (t : Nat) (i : TI) : Prop where
  desc : P.underlying t = some i.desc
  info : (P.info? t).map (fun x => (x.size, x.bytes, x.zero, x.comparable)) = some (i.size, i.bytes, some (zeroOf i), i.cmp)
  agg : isAggD i.desc = i.agg
  zero : i.zero.length = i.size
  zcells : (zeroOf i).cells = i.zero.toArray
def Tab.ok (P : Program) : Tab → Prop
  | .leaf => True
  | .node k v l r => TIOk P k v ∧ l.ok P ∧ r.ok P
theorem Tab.find_ok {P : Program} : ∀ {T : Tab}, T.ok P → ∀ {t i}, T.find t = some i → TIOk P t i
  | .leaf, _, _, _, h => by cases h
  | .node k v l r, ⟨a, b, c⟩, t, i, h => by
    unfold Tab.find at h
    split at h
    · rename_i e; cases h; rw [Nat.eq_of_beq_eq_true e]; exact a
    · split at h
      · exact Tab.find_ok b h
      · exact Tab.find_ok c h

structure Ctx where
  P : Program
  T : Tab
  ok : T.ok P
  mixed : P.follows .mixedOrders = true

theorem run_under {P : Program} {t : Nat} {i : TI} (h : TIOk P t i) (w : World) : (underlying t).run P w = .ok i.desc w := run_underlying h.desc w
theorem run_info {P : Program} {t : Nat} {i : TI} (h : TIOk P t i) (w : World) : ∃ x : TypeInfo, P.info? t = some x ∧ (typeInfo t).run P w = .ok x w ∧ x.size = i.size ∧ x.bytes = i.bytes ∧ x.zero = some (zeroOf i) ∧ x.comparable = i.cmp := by
  have e := h.info
  cases hx : P.info? t with
  | none => rw [hx] at e; cases e
  | some x =>
    rw [hx] at e
    simp only [Option.map_some, Option.some.injEq, Prod.mk.injEq] at e
    exact ⟨x, rfl, by simp [typeInfo, hx], e.1, e.2.1, e.2.2.1, e.2.2.2⟩
theorem run_size {P : Program} {t : Nat} {i : TI} (h : TIOk P t i) (w : World) : (sizeOf t).run P w = .ok i.size w := by
  obtain ⟨x, _, r, e, _⟩ := run_info h w
  simp [Go.sizeOf, r, e]
theorem run_zero {P : Program} {t : Nat} {i : TI} (h : TIOk P t i) (w : World) : (zeroValue t).run P w = .ok (zeroOf i) w := by
  obtain ⟨x, _, r, _, _, e, _⟩ := run_info h w
  simp [zeroValue, r, e]
theorem run_isAgg {P : Program} {t : Nat} {i : TI} (h : TIOk P t i) (w : World) : (isAgg t).run P w = .ok i.agg w := by
  simp only [isAgg, Sem.run_bind, run_under h, Result.andThen_ok]
  rw [← h.agg]
  cases i.desc <;> rfl

/-- What a temporary is known to hold: a value; or a value if a condition holds. -/
inductive Slot where
  | val (v : Value)
  | grd (p : Bool) (v : Value)
abbrev Env := List (Nat × Slot)
def Env.get : Env → Nat → Option Slot
  | [], _ => none
  | (j, s) :: e, i => match Nat.beq i j with
    | true => some s
    | false => Env.get e i
def Slot.fits : Slot → Option Value → Prop
  | .val v, x => x = some v
  | .grd p v, x => x = some (bif p then v else undef)
structure Agree (N : Nat) (env : Env) (a : Act) : Prop where
  defers : a.defers = []
  size : a.tmps.size = N
  at_ : ∀ i s, Env.get env i = some s → s.fits a.tmps[i]?

theorem Agree.put {N : Nat} {env : Env} {a : Act} (h : Agree N env a) {d : Nat} (hd : Nat.blt d N = true) (v : Value) : Agree N ((d, .val v) :: env) (a.put (some d) v) := by
  have hd' : d < N := by simpa [Nat.blt_eq] using hd
  refine ⟨h.defers, by simp [Act.put, h.size], fun i s hs => ?_⟩
  unfold Env.get at hs
  split at hs
  · rename_i e
    have e := Nat.eq_of_beq_eq_true e
    cases hs; subst e
    simp [Slot.fits, Act.put, h.size, hd']
  · rename_i e
    have e := Nat.ne_of_beq_eq_false e
    have := h.at_ i s hs
    simpa [Act.put, Array.getElem?_setIfInBounds, Ne.symm e] using this
theorem Agree.none {N : Nat} {env : Env} {a : Act} (h : Agree N env a) (v : Value) : Agree N env (a.put none v) := h
theorem Agree.grd {N : Nat} {env : Env} {a : Act} (h : Agree N env a) {d : Nat} (hd : Nat.blt d N = true) {q : Bool} {u v : Value} (hq : u = bif q then v else undef) :
    Agree N ((d, .grd q v) :: env) (a.put (some d) u) := by
  have hd' : d < N := by simpa [Nat.blt_eq] using hd
  refine ⟨h.defers, by simp [Act.put, h.size], fun i s hs => ?_⟩
  unfold Env.get at hs
  split at hs
  · rename_i e
    have e := Nat.eq_of_beq_eq_true e
    cases hs; subst e
    simp [Slot.fits, Act.put, h.size, hd', hq]
  · rename_i e
    have e := Nat.ne_of_beq_eq_false e
    have := h.at_ i s hs
    simpa [Act.put, Array.getElem?_setIfInBounds, Ne.symm e] using this
/-- What the second list says, the first says. -/
def SubEnv : Env → Env → Prop
  | [], _ => True
  | (i, s) :: r, e => Env.get e i = some s ∧ SubEnv r e
theorem Agree.sub {N : Nat} {e e' : Env} {a : Act} (h : Agree N e a) (s : SubEnv e' e) : Agree N e' a := by
  refine ⟨h.defers, h.size, fun i x hx => ?_⟩
  induction e' with
  | nil => cases hx
  | cons y r ih =>
    obtain ⟨j, t⟩ := y
    obtain ⟨s1, s2⟩ := s
    unfold Env.get at hx
    split at hx
    · rename_i e
      have e := Nat.eq_of_beq_eq_true e
      cases hx; subst e
      exact h.at_ _ _ s1
    · exact ih s2 hx

def Holds : Option Prop → Prop
  | none => True
  | some p => p
def andC : Option Prop → Option Prop → Option Prop
  | none, c => c
  | some p, none => some p
  | some p, some q => some (p ∧ q)
theorem holds_andC {a b : Option Prop} (h : Holds (andC a b)) : Holds a ∧ Holds b := by
  cases a <;> cases b <;> simp_all [andC, Holds]

/-- a value under a condition, the condition laid open -/
def fin (c : Option Prop) (v : Value) : Option (Option Prop × Value) := match c with
  | none => some (none, v)
  | some p => some (some p, v)
theorem fin_eq {c c' : Option Prop} {v v' : Value} (h : fin c v = some (c', v')) : c' = c ∧ v' = v := by
  cases c <;> simp only [fin, Option.some.injEq, Prod.mk.injEq] at h <;> exact ⟨h.1.symm, h.2.symm⟩
/-- Under which condition an operation is carried out: always, or if a test came out true. -/
abbrev Gd := Option Bool
def Gd.on : Gd → Prop
  | none => True
  | some g => g = true
def cnd : Gd → Prop → Option Prop
  | none, p => some p
  | some g, p => some (g = true → p)
theorem cnd_ok {q : Gd} {p : Prop} (h : Holds (cnd q p)) (hq : q.on) : p := by
  cases q with
  | none => exact h
  | some g => exact h hq
/-- An operand, where condition 'q' holds. -/
def rd (q : Gd) (env : Env) : Operand → Option (Option Prop × Value)
  | .tmp t => match Env.get env t with
    | some (.val v) => some (none, v)
    | some (.grd p v) => fin (cnd q (p = true)) v
    | none => none
  | .const v => some (none, v)
  | .global g => some (none, .pointer (some ⟨g, 0, none⟩))
  | .func f => some (none, .func (.func f) #[] #[])
theorem rd_ok {N : Nat} {env : Env} {a : Act} (h : Agree N env a) {q : Gd} {x : Operand} {c : Option Prop} {v : Value} (e : rd q env x = some (c, v)) (hc : Holds c) (hq : q.on) : a.eval x = v := by
  cases x with
  | tmp t =>
    simp only [rd] at e
    cases hu : Env.get env t with
    | none => rw [hu] at e; cases e
    | some s =>
      rw [hu] at e
      cases s with
      | val u =>
        cases e
        have := h.at_ _ _ hu
        simp only [Slot.fits] at this
        simp [Act.eval, Array.getD_eq_getD_getElem?, this]
      | grd p u =>
        obtain ⟨rfl, rfl⟩ := fin_eq e
        have := h.at_ _ _ hu
        simp only [Slot.fits, cnd_ok hc hq, cond_true] at this
        simp [Act.eval, Array.getD_eq_getD_getElem?, this]
  | const v => simp only [rd, Option.some.injEq, Prod.mk.injEq] at e; exact e.2
  | global g => simp only [rd, Option.some.injEq, Prod.mk.injEq] at e; exact e.2
  | func f => simp only [rd, Option.some.injEq, Prod.mk.injEq] at e; exact e.2
end Go.GL
