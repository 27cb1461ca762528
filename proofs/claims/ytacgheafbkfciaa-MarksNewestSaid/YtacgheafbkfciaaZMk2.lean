/- Contracts of functions of the given program, and plain laws: parts of the proofs of laws. -/
import Derived.Test.YtacgheafbkfciaaZMk1
/- One operation's value, out of what the temporaries are known to hold: the operations that only compute. -/
namespace Go.GL
open Go

def nthL : List Value → Nat → Option Value
  | [], _ => none
  | v :: _, 0 => some v
  | _ :: r, n + 1 => nthL r n
def takeL : List Value → Nat → Option (List Value)
  | _, 0 => some []
  | [], _ + 1 => none
  | v :: r, n + 1 => match takeL r n with
    | some l => some (v :: l)
    | none => none
def cutL : List Value → Nat → Nat → Option (List Value)
  | l, 0, n => takeL l n
  | [], _ + 1, _ => none
  | _ :: r, o + 1, n => cutL r o n
theorem nthL_eq (l : List Value) (n : Nat) : nthL l n = l[n]? := by
  induction l generalizing n with
  | nil => rfl
  | cons v r ih => cases n <;> simp [nthL, ih]
theorem takeL_eq {l : List Value} {n : Nat} {r : List Value} (h : takeL l n = some r) : r = l.take n ∧ r.length = n := by
  induction l generalizing n r with
  | nil => cases n <;> simp_all [takeL]
  | cons v t ih =>
    cases n with
    | zero => simp_all [takeL]
    | succ n =>
      simp only [takeL] at h
      split at h
      · rename_i l' hl; cases h; obtain ⟨h1, h2⟩ := ih hl; simp [h1.symm, h2]
      · cases h
theorem cutL_eq {l : List Value} {o n : Nat} {r : List Value} (h : cutL l o n = some r) : r = (l.drop o).take n ∧ r.length = n := by
  induction l generalizing o with
  | nil =>
    cases o with
    | zero => simpa [cutL] using takeL_eq (l := []) (by simpa [cutL] using h)
    | succ o => simp [cutL] at h
  | cons v t ih =>
    cases o with
    | zero => simpa [cutL] using takeL_eq h
    | succ o => simpa using ih (by simpa [cutL] using h)

/-- the condition, and a test besides -/
def Gd.more : Gd → Bool → Gd
  | none, g => some g
  | some p, g => some (p && g)
def cndO : Gd → Option Prop → Option Prop
  | _, none => none
  | q, some p => cnd q p
theorem cndO_ok {q : Gd} {p : Option Prop} (h : Holds (cndO q p)) (hq : q.on) : Holds p := by
  cases p with
  | none => exact trivial
  | some p => exact cnd_ok h hq
/-- where a slice begins that was cut at l -/
def cutA (a : Option Addr) (cap l size : Nat) : Option Addr := if cap = l then a else a.map (·.add (l * size))
def byteAt (s : ByteArray) (i : Int) : Int := ((s.data.toList)[i.toNat]?.getD 0).toNat

def fieldOf (T : Tab) (t : TypeId) (f : Nat) : Option (Field × TI) :=
  match T.find t with
  | some ⟨.struct fs, _, _, _, _, _⟩ => match fs.toList[f]? with
    | some fd => match T.find fd.type with
      | some ti => some (fd, ti)
      | none => none
    | none => none
  | _ => none

def evLen (T : Tab) (t : TypeId) : Value → Option (Option Prop × Value)
  | .slice _ n _ => match T.find t with
    | some ⟨.slice _, _, _, _, _, _⟩ => some (none, .int .i64 n)
    | _ => none
  | .string s => match T.find t with
    | some ⟨.string, _, _, _, _, _⟩ => some (none, .int .i64 s.size)
    | _ => none
  | .agg _ => match T.find t with
    | some ⟨.array n _, _, _, _, _, _⟩ => some (none, .int .i64 n)
    | _ => none
  | _ => none

/-- a bound of a slice expression -/
def rdO (q : Gd) (env : Env) : Option Operand → Option (Option (Option Prop × Int))
  | none => some none
  | some x => match rd q env x with
    | some (c, .int _ n) => some (some (c, n))
    | _ => none
/-- a number that is not negative, as it is spelled ('nw'), or cut off at 0 -/
def nat? : Bool → Int → Option Nat
  | true, .ofNat m => some m
  | true, .negSucc _ => none
  | false, n => some n.toNat
theorem nat?_ok {nw : Bool} {n : Int} {m : Nat} (h : nat? nw n = some m) (h0 : 0 ≤ n) : n.toNat = m := by
  cases nw with
  | true =>
    cases n with
    | ofNat k => simp only [nat?, Option.some.injEq] at h; subst h; rfl
    | negSucc k => cases h
  | false => simp only [nat?, Option.some.injEq] at h; exact h
/-- a slice's bounds: the lower one (if it is told), the upper one -/
def bnds (nw : Bool) (q : Gd) (len cap : Nat) : Option (Option Prop × Int) → Option (Option Prop × Int) → Option (Option Prop × Option Nat × Nat)
  | none, none => some (none, none, len)
  | some (c, l), none => match nat? nw l with
    | some l' => some (andC c (cnd q (0 ≤ l ∧ l ≤ len)), some l', len)
    | none => none
  | none, some (c, h) => match nat? nw h with
    | some h' => some (andC c (cnd q (0 ≤ h ∧ h ≤ cap)), none, h')
    | none => none
  | some (c, l), some (c', h) => match nat? nw l, nat? nw h with
    | some l', some h' => some (andC c (andC c' (cnd q (0 ≤ l ∧ l ≤ h ∧ h ≤ cap))), some l', h')
    | _, _ => none
def evSlice (T : Tab) (nw : Bool) (q : Gd) (t : TypeId) (lo hi : Option (Option Prop × Int)) : Value → Option (Option Prop × Value)
  | .slice a len cap => match T.find t with
    | some ⟨.slice e, _, _, _, _, _⟩ => match T.find e, bnds nw q len cap lo hi with
      | some _, some (c, none, h) => fin c (.slice a h cap)
      | some ⟨_, sz, _, _, _, _⟩, some (c, some l, h) => fin c (.slice (cutA a cap l sz) (h - l) (cap - l))
      | _, _ => none
    | _ => none
  | .string s => match T.find t with
    | some ⟨.string, _, _, _, _, _⟩ => match bnds nw q s.size s.size lo hi with
      | some (c, none, h) => fin c (.string (s.extract 0 h))
      | some (c, some l, h) => fin c (.string (s.extract l h))
      | none => none
    | _ => none
  | .pointer (some a) => match T.find t with
    | some ⟨.array n e, _, _, _, _, _⟩ => match T.find e, bnds nw q n n lo hi with
      | some _, some (c, none, h) => fin c (.slice (some a) h n)
      | some ⟨_, sz, _, _, _, _⟩, some (c, some l, h) => fin c (.slice (cutA (some a) n l sz) (h - l) (n - l))
      | _, _ => none
    | _ => none
  | _ => none

def evCall (q : Gd) (T : Tab) (env : Env) : Call → Option (Option Prop × Value)
  | ⟨.builtin .len, ⟨[x]⟩, ⟨[t]⟩⟩ => match rd q env x with
    | some (c, v) => match evLen T t v with
      | some (c', v') => fin (andC c c') v'
      | none => none
    | none => none
  | ⟨.builtin .min, ⟨[x, y]⟩, _⟩ => match rd q env x, rd q env y with
    | some (c1, .int k a), some (c2, .int _ b) => fin (andC c1 c2) (.int k (if b < a then b else a))
    | _, _ => none
  | ⟨.builtin .max, ⟨[x, y]⟩, _⟩ => match rd q env x, rd q env y with
    | some (c1, .int k a), some (c2, .int _ b) => fin (andC c1 c2) (.int k (if a < b then b else a))
    | _, _ => none
  | _ => none
def ev (T : Tab) (nw : Bool) (q : Gd) (env : Env) : Op → Option (Option Prop × Value)
  | .move x => rd q env x
  | .assign x => rd q env x
  | .pick c a b => match rd q env c with
    | some (cc, .bool g) => match rd (q.more g) env a, rd (q.more (!g)) env b with
      | some (ca, .bool x), some (cb, .bool y) => fin (andC cc (andC ca cb)) (.bool (bif g then x else y))
      | _, _ => none
    | _ => none
  | .nilCheck x => match rd q env x with
    | some (c, .pointer (some a)) => some (c, .pointer (some a))
    | some (c, .iface t v) => some (c, .iface t v)
    | _ => none
  | .binOp op t x y _ => match rd q env x, rd q env y with
    | some (c1, a), some (c2, b) => match evBin T nw op t (isConstO x) (isConstO y) a b with
      | some (c3, v) => fin (andC c1 (andC c2 (cndO q c3))) v
      | none => none
    | _, _ => none
  | .unOp op _ x => match op, rd q env x with
    | .not, some (c, .bool b) => some (c, .bool (!b))
    | .neg, some (c, .int k n) => match nw with
      | true => fin (andC c (cndO q (fitC k (0 - n)))) (.int k (0 - n))
      | false => some (c, .int k (k.wrap (0 - n)))
    | .xor, some (c, .int k n) => some (c, .int k (bitsV .xor k (if k.signed then -1 else k.max) n))
    | _, _ => none
  | .convert s d x => match T.find s, T.find d, rd q env x with
    | some _, some ⟨.int k, _, _, _, _, _⟩, some (c, .int _ n) => match nw with
      | true => fin (andC c (cndO q (fitC k n))) (.int k n)
      | false => some (c, .int k (k.wrap n))
    | some _, some ⟨.string, _, _, _, _, _⟩, some (c, .string x) => some (c, .string x)
    | _, _, _ => none
  | .makeInterface t x => match T.find t, rd q env x with
    | some ⟨.interface _, _, _, _, _, _⟩, _ => none
    | some _, some (c, v) => some (c, .iface t v)
    | _, _ => none
  | .field t x f => match fieldOf T t f, rd q env x with
    | some (fd, ti), some (c, .agg cs) => match ti.agg with
      | true => match cutL cs.toList fd.offset ti.size with
        | some l => some (c, .agg l.toArray)
        | none => none
      | false => match nthL cs.toList fd.offset with
        | some v => some (c, v)
        | none => none
    | _, _ => none
  | .extract x i => match rd q env x with
    | some (c, .tuple vs) => match nthL vs.toList i with
      | some v => some (c, v)
      | none => none
    | _ => none
  | .fieldAddr t x f => match fieldOf T t f, rd q env x with
    | some (⟨_, _, o, _, _, _, _⟩, ⟨_, _ + 1, _, _, _, _⟩), some (c, .pointer (some ⟨b, off, none⟩)) => some (c, .pointer (some ⟨b, off + o, none⟩))
    | _, _ => none
  | .indexAddr t x ix => match rd q env ix, rd q env x, T.find t with
    | some (c1, .int _ i), some (c2, .slice (some ⟨b, off, none⟩) len _), some ⟨.slice e, _, _, _, _, _⟩ => match T.find e, nat? nw i with
      | some ⟨_, sz, _, _, _, _⟩, some i' => fin (andC c1 (andC c2 (cnd q (0 ≤ i ∧ i < len)))) (.pointer (some ⟨b, off + i' * sz, none⟩))
      | _, _ => none
    | some (c1, .int _ i), some (c2, .pointer (some ⟨b, off, none⟩)), some ⟨.array len e, _, _, _, _, _⟩ => match T.find e, nat? nw i with
      | some ⟨_, sz, _, _, _, _⟩, some i' => fin (andC c1 (andC c2 (cnd q (0 ≤ i ∧ i < len)))) (.pointer (some ⟨b, off + i' * sz, none⟩))
      | _, _ => none
    | _, _, _ => none
  | .index t x ix => match rd q env ix, rd q env x, T.find t with
    | some (c1, .int _ i), some (c2, .string s), some ⟨.string, _, _, _, _, _⟩ => fin (andC c1 (andC c2 (cnd q (0 ≤ i ∧ i < s.size)))) (.int .u8 (byteAt s i))
    | some (c1, .int _ i), some (c2, .agg cs), some ⟨.array len e, _, _, _, _, _⟩ => match T.find e, nat? nw i with
      | some ⟨_, sz, _, _, false, _⟩, some i' => match nthL cs.toList (i' * sz) with
        | some v => fin (andC c1 (andC c2 (cnd q (0 ≤ i ∧ i < len)))) v
        | none => none
      | _, _ => none
    | _, _, _ => none
  | .slice t x lo hi none => match rdO q env lo, rdO q env hi, rd q env x with
    | some l, some h, some (c, v) => match evSlice T nw q t l h v with
      | some (c', v') => fin (andC c c') v'
      | none => none
    | _, _, _ => none
  | .call cl => evCall q T env cl
  | _ => none
end Go.GL
/- The operations that only compute: what GLd says of them is what the model does. -/
namespace Go.GL
open Go

theorem val_run {P : Program} {s : Sem Value} {v : Value} {w : World} (h : s.run P w = .ok v w) : (do pure (Next.value (← s)) : Sem Next).run P w = .ok (.value v) w := by
  simp only [Sem.run_bind, h, Result.andThen_ok, Sem.run_pure]
theorem addr_add (b off n : Nat) : (⟨b, off, none⟩ : Addr).add n = ⟨b, off + n, none⟩ := by
  unfold Addr.add; split
  · simp_all
  · rfl
theorem fieldOf_ok {P : Program} {T : Tab} (hT : T.ok P) {t f : Nat} {fd : Field} {ti : TI} (h : fieldOf T t f = some (fd, ti)) :
    ∃ fs : Array Field, P.underlying t = some (.struct fs) ∧ fs[f]? = some fd ∧ TIOk P fd.type ti := by
  unfold fieldOf at h
  split at h
  · rename_i fs _ _ _ _ _ ht
    split at h
    · rename_i fd' hf
      split at h
      · rename_i ti' hti
        cases h
        exact ⟨fs, (Tab.find_ok hT ht).desc, by simpa using hf, Tab.find_ok hT hti⟩
      · cases h
    · cases h
  · cases h
theorem bound_ok {P : Program} {k : IntKind} {n : Int} {y : Nat} (code : BoundsCode) (h0 : 0 ≤ n) (h1 : n ≤ y) (w : World) : (Instr.sliceBound (.int k n) y code).run P w = .ok n.toNat w := by
  simp [Instr.sliceBound, asIntOf, h0, h1]
theorem rdO_ok {N : Nat} {env : Env} {a : Act} (h : Agree N env a) {q : Gd} {x : Option Operand} {r : Option (Option Prop × Int)} (e : rdO q env x = some r) (hq : q.on) :
    (x = none ∧ r = none) ∨ ∃ y c n, x = some y ∧ r = some (c, n) ∧ (Holds c → ∃ k, a.eval y = .int k n) := by
  cases x with
  | none => left; simp only [rdO, Option.some.injEq] at e; exact ⟨rfl, e.symm⟩
  | some y =>
    right
    simp only [rdO] at e
    cases hr : rd q env y with
    | none => rw [hr] at e; cases e
    | some z =>
      rw [hr] at e
      obtain ⟨c, v⟩ := z
      cases v <;> simp only [Option.some.injEq] at e <;> first | (cases e; done) | skip
      rename_i k n
      exact ⟨y, c, n, rfl, e.symm, fun hc => ⟨k, rd_ok h hr hc hq⟩⟩

theorem bounds_ok {P : Program} {N : Nat} {env : Env} {a : Act} (ha : Agree N env a) {nw : Bool} {q : Gd} (hq : q.on) {lo hi : Option Operand} {l h : Option (Option Prop × Int)}
    (hl : rdO q env lo = some l) (hh : rdO q env hi = some h) (s : Bool) {len cap : Nat} {c : Option Prop} {x : Option Nat} {y : Nat} (hb : bnds nw q len cap l h = some (c, x, y)) (hc : Holds c) (w : World) :
    (Instr.sliceBounds s len cap (lo.map a.eval) (hi.map a.eval) none).run P w = .ok (x.getD 0, y, cap) w := by
  rcases rdO_ok ha hl hq with ⟨rfl, rfl⟩ | ⟨u, c1, n, rfl, rfl, hx⟩ <;> rcases rdO_ok ha hh hq with ⟨rfl, rfl⟩ | ⟨z, c2, m, rfl, rfl, hy⟩
  · simp only [bnds, Option.some.injEq, Prod.mk.injEq] at hb
    obtain ⟨rfl, rfl, rfl⟩ := hb
    simp [Instr.sliceBounds]
  · simp only [bnds] at hb
    split at hb
    · rename_i h' hn
      cases hb
      obtain ⟨cl, hc⟩ := holds_andC hc
      obtain ⟨h0, h1⟩ := cnd_ok hc hq
      obtain ⟨k, e⟩ := hy cl
      simp [Instr.sliceBounds, e, bound_ok _ h0 h1, nat?_ok hn h0]
    · cases hb
  · simp only [bnds] at hb
    split at hb
    · rename_i h' hn
      cases hb
      obtain ⟨cl, hc⟩ := holds_andC hc
      obtain ⟨h0, h1⟩ := cnd_ok hc hq
      obtain ⟨k, e⟩ := hx cl
      simp [Instr.sliceBounds, e, bound_ok _ h0 h1, nat?_ok hn h0]
    · cases hb
  · simp only [bnds] at hb
    split at hb
    · rename_i l' h' hn hn'
      cases hb
      obtain ⟨cl, hc⟩ := holds_andC hc
      obtain ⟨ch, hc⟩ := holds_andC hc
      obtain ⟨h0, h1, h2⟩ := cnd_ok hc hq
      obtain ⟨k, e⟩ := hx cl
      obtain ⟨k', e'⟩ := hy ch
      have hy' := nat?_ok hn' (show 0 ≤ m by omega)
      subst hy'
      simp [Instr.sliceBounds, e, e', bound_ok _ (show 0 ≤ m by omega) h2, bound_ok (P := P) .sliceB h0 (show n ≤ (m.toNat : Nat) by omega), nat?_ok hn h0]
    · cases hb

theorem cutA_zero (a : Option Addr) (cap size : Nat) : cutA a cap 0 size = a := by
  unfold cutA
  split
  · rfl
  · cases a <;> simp [Addr.add]
section
variable {P : Program} {T : Tab} {N : Nat} {env : Env} {a : Act} {q : Gd} {nw : Bool} {o : Oper} {c : Option Prop} {v : Value}
theorem evSlice_ok (hT : T.ok P) (ha : Agree N env a) (hq : q.on) {t : TypeId} {x lo hi} {l h : Option (Option Prop × Int)} {u : Value} {c0 : Option Prop} (hx : rd q env x = some (c0, u)) (hc0 : Holds c0)
    (hl : rdO q env lo = some l) (hh : rdO q env hi = some h) (he : evSlice T nw q t l h u = some (c, v)) (hc : Holds c) (w : World) :
    (Instr.sliceAt t (a.eval x) (lo.map a.eval) (hi.map a.eval) none).run P w = .ok v w := by
  rw [rd_ok ha hx hc0 hq]
  cases u with
  | slice p len cap =>
    simp only [evSlice] at he
    split at he
    · rename_i e _ _ _ _ _ ht
      have hu := (Tab.find_ok hT ht).desc
      split at he
      · rename_i ti c1 y1 hti hb
        obtain ⟨rfl, rfl⟩ := fin_eq he
        have hz := cutA_zero p cap ti.size
        unfold cutA at hz
        simp only [Instr.sliceAt, Instr.slice, Sem.run_bind, run_underlying hu, Result.andThen_ok, bounds_ok ha hq hl hh true hb hc, run_size (Tab.find_ok hT hti), Sem.run_pure, Option.getD_none, hz, Nat.sub_zero]
      · rename_i dsc sz by_ z ag cm c1 x1 y1 hti hb
        obtain ⟨rfl, rfl⟩ := fin_eq he
        simp only [Instr.sliceAt, Instr.slice, Sem.run_bind, run_underlying hu, Result.andThen_ok, bounds_ok ha hq hl hh true hb hc, run_size (Tab.find_ok hT hti), Sem.run_pure, Option.getD_some, cutA]
      · cases he
    · cases he
  | string s =>
    simp only [evSlice] at he
    split at he
    · rename_i _ _ _ _ _ ht
      have hu := (Tab.find_ok hT ht).desc
      split at he
      · rename_i hb
        obtain ⟨rfl, rfl⟩ := fin_eq he
        simp [Instr.sliceAt, Instr.slice, Sem.run_bind, run_underlying hu, bounds_ok (P := P) ha hq hl hh false hb hc]
      · rename_i hb
        obtain ⟨rfl, rfl⟩ := fin_eq he
        simp [Instr.sliceAt, Instr.slice, Sem.run_bind, run_underlying hu, bounds_ok (P := P) ha hq hl hh false hb hc]
      · cases he
    · cases he
  | pointer p =>
    cases p with
    | none => simp [evSlice] at he
    | some p =>
      simp only [evSlice] at he
      split at he
      · rename_i n e _ _ _ _ _ ht
        have hu := (Tab.find_ok hT ht).desc
        split at he
        · rename_i ti c1 y1 hti hb
          obtain ⟨rfl, rfl⟩ := fin_eq he
          have hz := cutA_zero (some p) n ti.size
          simp only [Instr.sliceAt, Instr.sureAddr, Sem.run_bind, run_underlying hu, Result.andThen_ok, bounds_ok ha hq hl hh false hb hc, run_size (Tab.find_ok hT hti), Sem.run_pure, Option.getD_none, Nat.sub_zero]
          split <;> simp [Addr.add]
        · rename_i dsc sz by_ z ag cm c1 x1 y1 hti hb
          obtain ⟨rfl, rfl⟩ := fin_eq he
          simp only [Instr.sliceAt, Instr.sureAddr, Sem.run_bind, run_underlying hu, Result.andThen_ok, bounds_ok ha hq hl hh false hb hc, run_size (Tab.find_ok hT hti), Sem.run_pure, Option.getD_some, cutA]
          split <;> simp_all
        · cases he
      · cases he
  | _ => simp [evSlice] at he

theorem evLen_ok (hT : T.ok P) {t : TypeId} {u : Value} (he : evLen T t u = some (c, v)) (w : World) : (Builtin.len_ #[t] o.type #[u]).run P w = .ok v w := by
  cases u <;> simp only [evLen] at he <;> first
    | (cases he; done)
    | (split at he
       · rename_i ht; cases he
         have hu := (Tab.find_ok hT ht).desc
         simp [Builtin.len_, run_underlying hu, goInt]
       · cases he)

theorem ev_ok (hT : T.ok P) (he : ev T nw q env o.op = some (c, v)) (hc : Holds c) (hq : q.on) (ha : Agree N env a) (w : World) : (execOp a.eval o).run P w = .ok (.value v) w := by
  obtain ⟨dst, op, type, pos, after, guard⟩ := o
  simp only at he
  cases op with
  | move x =>
    have := rd_ok ha he hc hq
    simp only [execOp, this, Sem.run_pure]
  | assign x =>
    have := rd_ok ha he hc hq
    simp only [execOp, this, Sem.run_pure]
  | pick z x y =>
    simp only [ev] at he
    split at he
    · rename_i cc g hz
      split at he
      · rename_i ca x' cb y' hx hy
        obtain ⟨rfl, rfl⟩ := fin_eq he
        obtain ⟨c1, hc⟩ := holds_andC hc
        obtain ⟨c2, c3⟩ := holds_andC hc
        have ez := rd_ok ha hz c1 hq
        simp only [execOp, ez, asBool, Sem.run_bind, Sem.run_pure, Result.andThen_ok]
        cases g with
        | true =>
          have : (q.more true).on := by cases q <;> simp_all [Gd.more, Gd.on]
          rw [rd_ok ha hx c2 this]; rfl
        | false =>
          have : (q.more (!false)).on := by cases q <;> simp_all [Gd.more, Gd.on]
          rw [rd_ok ha hy c3 this]; rfl
      · cases he
    · cases he
  | nilCheck x =>
    simp only [ev] at he
    split at he
    · rename_i c' p hx; cases he
      simp only [execOp, rd_ok ha hx hc hq, Sem.run_pure]
    · rename_i c' t' v' hx; cases he
      simp only [execOp, rd_ok ha hx hc hq, Sem.run_pure]
    · cases he
  | binOp op t x y yt =>
    simp only [ev] at he
    split at he
    · rename_i c1 u c2 u' hx hy
      split at he
      · rename_i c3 v' hb
        obtain ⟨rfl, rfl⟩ := fin_eq he
        obtain ⟨h1, hc⟩ := holds_andC hc
        obtain ⟨h2, h3⟩ := holds_andC hc
        simp only [execOp, rd_ok ha hx h1 hq, rd_ok ha hy h2 hq]
        exact val_run (evBin_ok hT hb (cndO_ok h3 hq) w)
      · cases he
    · cases he
  | unOp op t x =>
    simp only [ev] at he
    split at he
    · rename_i c' b hx; cases he
      simp only [execOp, rd_ok ha hx hc hq, Op.unary, Sem.run_bind, Sem.run_pure, Result.andThen_ok]
    · rename_i c' k n hx
      cases nw with
      | true =>
        obtain ⟨rfl, rfl⟩ := fin_eq he
        obtain ⟨h1, h2⟩ := holds_andC hc
        simp only [execOp, rd_ok ha hx h1 hq, Op.unary, Op.intArith, Sem.run_bind, Sem.run_pure, Result.andThen_ok, wrap_fit (fitC_ok (cndO_ok h2 hq))]
      | false =>
        cases he
        simp only [execOp, rd_ok ha hx hc hq, Op.unary, Op.intArith, Sem.run_bind, Sem.run_pure, Result.andThen_ok]
    · rename_i c' k n hx
      cases he
      simp only [execOp, rd_ok ha hx hc hq, Op.unary, Op.intBits, Sem.run_bind, Sem.run_pure, Result.andThen_ok, bitsV]
    · cases he
  | convert s d x =>
    simp only [ev] at he
    split at he
    · rename_i is k _ _ _ _ _ c' k' n hs hd hx
      have us := (Tab.find_ok hT hs).desc
      have ud := (Tab.find_ok hT hd).desc
      cases nw with
      | true =>
        obtain ⟨rfl, rfl⟩ := fin_eq he
        obtain ⟨h1, h2⟩ := holds_andC hc
        have e := rd_ok ha hx h1 hq
        simp only [execOp, convert, Sem.run_bind, run_underlying us, run_underlying ud, Result.andThen_ok, e, Conv.intToInt, Sem.run_pure, wrap_fit (fitC_ok (cndO_ok h2 hq))]
      | false =>
        cases he
        have e := rd_ok ha hx hc hq
        simp only [execOp, convert, Sem.run_bind, run_underlying us, run_underlying ud, Result.andThen_ok, e, Conv.intToInt, Sem.run_pure]
    · rename_i is _ _ _ _ _ c' x' hs hd hx
      have us := (Tab.find_ok hT hs).desc
      have ud := (Tab.find_ok hT hd).desc
      cases he
      have e := rd_ok ha hx hc hq
      simp only [execOp, convert, Sem.run_bind, run_underlying us, run_underlying ud, Result.andThen_ok, e]
      cases is.desc <;> simp
    · cases he
  | makeInterface t x =>
    simp only [ev] at he
    split at he
    · cases he
    · rename_i ti c' v' hn ht hx
      cases he
      have e := rd_ok ha hx hc hq
      have u := (Tab.find_ok hT ht).desc
      simp only [execOp, Instr.makeInterface, Sem.run_bind, run_underlying u, Result.andThen_ok, e]
      split
      · rename_i ms hd
        obtain ⟨d, _, _, _, _, _⟩ := ti
        simp only at hd
        subst hd
        exact (hn _ _ _ _ _ _ rfl).elim
      · simp
    · cases he
  | field t x f =>
    simp only [ev] at he
    split at he
    · rename_i fd ti c' cs hf hx
      obtain ⟨fs, u, e1, e2⟩ := fieldOf_ok hT hf
      cases hag : ti.agg with
      | true =>
        rw [hag] at he
        simp only [] at he
        split at he
        · rename_i l hl
          cases he
          obtain ⟨h1, h2⟩ := cutL_eq hl
          simp only [execOp, Instr.field, Sem.run_bind, run_underlying u, Result.andThen_ok, e1, rd_ok ha hx hc hq, asAgg, part, Sem.run_pure, run_isAgg e2, hag, if_true, run_size e2]
          have e3 : cs.extract fd.offset (fd.offset + ti.size) = l.toArray := by
            apply Array.ext'
            simp [h1, List.extract_eq_take_drop]
          rw [e3]
        · cases he
      | false =>
        rw [hag] at he
        simp only [] at he
        split at he
        · rename_i v' hl
          cases he
          rw [nthL_eq] at hl
          simp only [execOp, Instr.field, Sem.run_bind, run_underlying u, Result.andThen_ok, e1, rd_ok ha hx hc hq, asAgg, part, Sem.run_pure, run_isAgg e2, hag]
          have : cs[fd.offset]? = some v := by simpa using hl
          simp [this]
        · cases he
    · cases he
  | extract x i =>
    simp only [ev] at he
    split at he
    · rename_i c' vs hx
      split at he
      · rename_i v' hl
        cases he
        rw [nthL_eq] at hl
        have : vs[i]? = some v := by simpa using hl
        simp [execOp, rd_ok ha hx hc hq, Instr.extract, this]
      · cases he
    · cases he
  | fieldAddr t x f =>
    simp only [ev] at he
    split at he
    · rename_i nm ty of_ em tg pk bo dsc sz by_ z ag cm c' b off hf hx
      obtain ⟨fs, u, e1, e2⟩ := fieldOf_ok hT hf
      cases he
      simp only [execOp, Instr.fieldAt, Sem.run_bind, run_underlying u, Result.andThen_ok, e1, rd_ok ha hx hc hq, Instr.sureAddr, Sem.run_pure, fieldPlace, run_size e2]
      simp [addr_add]
    · cases he
  | indexAddr t x ix =>
    simp only [ev] at he
    split at he
    · rename_i c1 k i c2 b off len cap e _ _ _ _ _ hi hx ht
      split at he
      · rename_i dsc sz by_ z ag cm i' hti hn
        obtain ⟨rfl, rfl⟩ := fin_eq he
        obtain ⟨h1, hc⟩ := holds_andC hc
        obtain ⟨h2, h3⟩ := holds_andC hc
        obtain ⟨h4, h5⟩ := cnd_ok h3 hq
        have u := (Tab.find_ok hT ht).desc
        simp [execOp, Instr.indexAt, rd_ok ha hi h1 hq, rd_ok ha hx h2 hq, asIntOf, run_underlying u, h4, h5, run_size (Tab.find_ok hT hti), addr_add, nat?_ok hn h4]
      · cases he
    · rename_i c1 k i c2 b off len e _ _ _ _ _ hi hx ht
      split at he
      · rename_i dsc sz by_ z ag cm i' hti hn
        obtain ⟨rfl, rfl⟩ := fin_eq he
        obtain ⟨h1, hc⟩ := holds_andC hc
        obtain ⟨h2, h3⟩ := holds_andC hc
        obtain ⟨h4, h5⟩ := cnd_ok h3 hq
        have u := (Tab.find_ok hT ht).desc
        simp [execOp, Instr.indexAt, rd_ok ha hi h1 hq, rd_ok ha hx h2 hq, asIntOf, run_underlying u, Instr.sureAddr, h4, h5, run_size (Tab.find_ok hT hti), addr_add, nat?_ok hn h4]
      · cases he
    · cases he
  | index t x ix =>
    simp only [ev] at he
    split at he
    · rename_i c1 k i c2 s _ _ _ _ _ hi hx ht
      obtain ⟨rfl, rfl⟩ := fin_eq he
      obtain ⟨h1, hc⟩ := holds_andC hc
      obtain ⟨h2, h3⟩ := holds_andC hc
      obtain ⟨h4, h5⟩ := cnd_ok h3 hq
      have u := (Tab.find_ok hT ht).desc
      have hlt : i.toNat < s.size := by omega
      have hlt' : i.toNat < s.data.size := hlt
      have e1 : s[i.toNat]? = some s[i.toNat] := by simp [hlt]
      simp only [execOp, Instr.index, rd_ok ha hi h1 hq, rd_ok ha hx h2 hq, asIntOf, Sem.run_bind, Sem.run_pure, Result.andThen_ok, run_underlying u, h4, if_true, e1, byteAt]
      congr 3
      have e2 : s.data.toList[i.toNat]? = some s[i.toNat] := by
        rw [ByteArray.getElem_eq_getElem_data]
        simp
      rw [e2]; rfl
    · rename_i c1 k i c2 cs len e _ _ _ _ _ hi hx ht
      split at he
      · rename_i dsc sz by_ z cm i' hti hn
        split at he
        · rename_i v' hv
          obtain ⟨rfl, rfl⟩ := fin_eq he
          obtain ⟨h1, hc⟩ := holds_andC hc
          obtain ⟨h2, h3⟩ := holds_andC hc
          obtain ⟨h4, h5⟩ := cnd_ok h3 hq
          have u := (Tab.find_ok hT ht).desc
          rw [nthL_eq] at hv
          have hv' : cs[i' * sz]? = some v := by simpa using hv
          simp [execOp, Instr.index, rd_ok ha hi h1 hq, rd_ok ha hx h2 hq, asIntOf, run_underlying u, h4, h5, run_size (Tab.find_ok hT hti), nat?_ok hn h4, part, run_isAgg (Tab.find_ok hT hti), hv']
        · cases he
      · cases he
    · cases he
  | slice t x lo hi mx =>
    cases mx with
    | some m => simp [ev] at he
    | none =>
      simp only [ev] at he
      split at he
      · rename_i l h c' u hl hh hx
        split at he
        · rename_i c'' v' hs
          obtain ⟨rfl, rfl⟩ := fin_eq he
          obtain ⟨h1, h2⟩ := holds_andC hc
          exact val_run (evSlice_ok hT ha hq hx h1 hl hh hs h2 w)
        · cases he
      · cases he
  | call cl =>
    simp only [ev] at he
    unfold evCall at he
    split at he
    · rename_i x t
      split at he
      · rename_i c' u hx
        split at he
        · rename_i c'' v' hs
          obtain ⟨rfl, rfl⟩ := fin_eq he
          obtain ⟨h1, h2⟩ := holds_andC hc
          simp only [execOp, resolve, Sem.run_bind, Sem.run_pure, Result.andThen_ok, invoke, builtin, List.map_toArray, List.map_cons, List.map_nil, rd_ok ha hx h1 hq]
          rw [evLen_ok (o := ⟨dst, .alloc 0, type, pos, after, guard⟩) hT hs w]
          rfl
        · cases he
      · cases he
    · rename_i x y ats
      split at he
      · rename_i c1 k1 n1 c2 k2 n2 hx hy
        obtain ⟨rfl, rfl⟩ := fin_eq he
        obtain ⟨h1, h2⟩ := holds_andC hc
        simp [execOp, resolve, invoke, builtin, rd_ok ha hx h1 hq, rd_ok ha hy h2 hq, Builtin.min_, Builtin.min2]
      · cases he
    · rename_i x y ats
      split at he
      · rename_i c1 k1 n1 c2 k2 n2 hx hy
        obtain ⟨rfl, rfl⟩ := fin_eq he
        obtain ⟨h1, h2⟩ := holds_andC hc
        simp [execOp, resolve, invoke, builtin, rd_ok ha hx h1 hq, rd_ok ha hy h2 hq, Builtin.max_, Builtin.max2]
      · cases he
    · cases he
  | _ => cases he
end
end Go.GL
