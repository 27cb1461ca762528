/- One operation's value, out of what the temporaries are known to hold: the operations that only compute. -/
import Derived.Test.YtkoakmaihcheaacDoorGLc
namespace Go.GL
open Go

def nthL : List Value → Nat → Option Value
  | [], _ => none
  | v :: _, 0 => some v
  | _ :: r, n + 1 => nthL r n
def takeL : List Value → Nat → Option (List Value)
  | _, 0 => some []
  | [], _ + 1 => none
  | v :: r, n + 1 => match takeL r n with
    | some l => some (v :: l)
    | none => none
def cutL : List Value → Nat → Nat → Option (List Value)
  | l, 0, n => takeL l n
  | [], _ + 1, _ => none
  | _ :: r, o + 1, n => cutL r o n
theorem nthL_eq (l : List Value) (n : Nat) : nthL l n = l[n]? := by
  induction l generalizing n with
  | nil => rfl
  | cons v r ih => cases n <;> simp [nthL, ih]
theorem takeL_eq {l : List Value} {n : Nat} {r : List Value} (h : takeL l n = some r) : r = l.take n ∧ r.length = n := by
  induction l generalizing n r with
  | nil => cases n <;> simp_all [takeL]
  | cons v t ih =>
    cases n with
    | zero => simp_all [takeL]
    | succ n =>
      simp only [takeL] at h
      split at h
      · rename_i l' hl; cases h; obtain ⟨h1, h2⟩ := ih hl; simp [h1.symm, h2]
      · cases h
theorem cutL_eq {l : List Value} {o n : Nat} {r : List Value} (h : cutL l o n = some r) : r = (l.drop o).take n ∧ r.length = n := by
  induction l generalizing o with
  | nil =>
    cases o with
    | zero => simpa [cutL] using takeL_eq (l := []) (by simpa [cutL] using h)
    | succ o => simp [cutL] at h
  | cons v t ih =>
    cases o with
    | zero => simpa [cutL] using takeL_eq h
    | succ o => simpa using ih (by simpa [cutL] using h)

/-- the condition, and a test besides -/
def Gd.more : Gd → Bool → Gd
  | none, g => some g
  | some p, g => some (p && g)
def cndO : Gd → Option Prop → Option Prop
  | _, none => none
  | q, some p => cnd q p
theorem cndO_ok {q : Gd} {p : Option Prop} (h : Holds (cndO q p)) (hq : q.on) : Holds p := by
  cases p with
  | none => exact trivial
  | some p => exact cnd_ok h hq
/-- where a slice begins that was cut at l -/
def cutA (a : Option Addr) (cap l size : Nat) : Option Addr := if cap = l then a else a.map (·.add (l * size))
def byteAt (s : ByteArray) (i : Int) : Int := ((s.data.toList)[i.toNat]?.getD 0).toNat

def fieldOf (T : Tab) (t : TypeId) (f : Nat) : Option (Field × TI) :=
  match T.find t with
  | some ⟨.struct fs, _, _, _, _, _⟩ => match fs.toList[f]? with
    | some fd => match T.find fd.type with
      | some ti => some (fd, ti)
      | none => none
    | none => none
  | _ => none

def evLen (T : Tab) (t : TypeId) : Value → Option (Option Prop × Value)
  | .slice _ n _ => match T.find t with
    | some ⟨.slice _, _, _, _, _, _⟩ => some (none, .int .i64 n)
    | _ => none
  | .string s => match T.find t with
    | some ⟨.string, _, _, _, _, _⟩ => some (none, .int .i64 s.size)
    | _ => none
  | .agg _ => match T.find t with
    | some ⟨.array n _, _, _, _, _, _⟩ => some (none, .int .i64 n)
    | _ => none
  | _ => none

/-- a bound of a slice expression -/
def rdO (q : Gd) (env : Env) : Option Operand → Option (Option (Option Prop × Int))
  | none => some none
  | some x => match rd q env x with
    | some (c, .int _ n) => some (some (c, n))
    | _ => none
/-- a number that is not negative, as it is spelled ('nw'), or cut off at 0 -/
def nat? : Bool → Int → Option Nat
  | true, .ofNat m => some m
  | true, .negSucc _ => none
  | false, n => some n.toNat
theorem nat?_ok {nw : Bool} {n : Int} {m : Nat} (h : nat? nw n = some m) (h0 : 0 ≤ n) : n.toNat = m := by
  cases nw with
  | true =>
    cases n with
    | ofNat k => simp only [nat?, Option.some.injEq] at h; subst h; rfl
    | negSucc k => cases h
  | false => simp only [nat?, Option.some.injEq] at h; exact h
/-- a slice's bounds: the lower one (if it is told), the upper one -/
def bnds (nw : Bool) (q : Gd) (len cap : Nat) : Option (Option Prop × Int) → Option (Option Prop × Int) → Option (Option Prop × Option Nat × Nat)
  | none, none => some (none, none, len)
  | some (c, l), none => match nat? nw l with
    | some l' => some (andC c (cnd q (0 ≤ l ∧ l ≤ len)), some l', len)
    | none => none
  | none, some (c, h) => match nat? nw h with
    | some h' => some (andC c (cnd q (0 ≤ h ∧ h ≤ cap)), none, h')
    | none => none
  | some (c, l), some (c', h) => match nat? nw l, nat? nw h with
    | some l', some h' => some (andC c (andC c' (cnd q (0 ≤ l ∧ l ≤ h ∧ h ≤ cap))), some l', h')
    | _, _ => none
def evSlice (T : Tab) (nw : Bool) (q : Gd) (t : TypeId) (lo hi : Option (Option Prop × Int)) : Value → Option (Option Prop × Value)
  | .slice a len cap => match T.find t with
    | some ⟨.slice e, _, _, _, _, _⟩ => match T.find e, bnds nw q len cap lo hi with
      | some _, some (c, none, h) => fin c (.slice a h cap)
      | some ⟨_, sz, _, _, _, _⟩, some (c, some l, h) => fin c (.slice (cutA a cap l sz) (h - l) (cap - l))
      | _, _ => none
    | _ => none
  | .string s => match T.find t with
    | some ⟨.string, _, _, _, _, _⟩ => match bnds nw q s.size s.size lo hi with
      | some (c, none, h) => fin c (.string (s.extract 0 h))
      | some (c, some l, h) => fin c (.string (s.extract l h))
      | none => none
    | _ => none
  | .pointer (some a) => match T.find t with
    | some ⟨.array n e, _, _, _, _, _⟩ => match T.find e, bnds nw q n n lo hi with
      | some _, some (c, none, h) => fin c (.slice (some a) h n)
      | some ⟨_, sz, _, _, _, _⟩, some (c, some l, h) => fin c (.slice (cutA (some a) n l sz) (h - l) (n - l))
      | _, _ => none
    | _ => none
  | _ => none

def evCall (q : Gd) (T : Tab) (env : Env) : Call → Option (Option Prop × Value)
  | ⟨.builtin .len, ⟨[x]⟩, ⟨[t]⟩⟩ => match rd q env x with
    | some (c, v) => match evLen T t v with
      | some (c', v') => fin (andC c c') v'
      | none => none
    | none => none
  | ⟨.builtin .min, ⟨[x, y]⟩, _⟩ => match rd q env x, rd q env y with
    | some (c1, .int k a), some (c2, .int _ b) => fin (andC c1 c2) (.int k (if b < a then b else a))
    | _, _ => none
  | ⟨.builtin .max, ⟨[x, y]⟩, _⟩ => match rd q env x, rd q env y with
    | some (c1, .int k a), some (c2, .int _ b) => fin (andC c1 c2) (.int k (if a < b then b else a))
    | _, _ => none
  | _ => none
def ev (T : Tab) (nw : Bool) (q : Gd) (env : Env) : Op → Option (Option Prop × Value)
  | .move x => rd q env x
  | .assign x => rd q env x
  | .pick c a b => match rd q env c with
    | some (cc, .bool g) => match rd (q.more g) env a, rd (q.more (!g)) env b with
      | some (ca, .bool x), some (cb, .bool y) => fin (andC cc (andC ca cb)) (.bool (bif g then x else y))
      | _, _ => none
    | _ => none
  | .nilCheck x => match rd q env x with
    | some (c, .pointer (some a)) => some (c, .pointer (some a))
    | some (c, .iface t v) => some (c, .iface t v)
    | _ => none
  | .binOp op t x y _ => match rd q env x, rd q env y with
    | some (c1, a), some (c2, b) => match evBin T nw op t (isConstO x) (isConstO y) a b with
      | some (c3, v) => fin (andC c1 (andC c2 (cndO q c3))) v
      | none => none
    | _, _ => none
  | .unOp op _ x => match op, rd q env x with
    | .not, some (c, .bool b) => some (c, .bool (!b))
    | .neg, some (c, .int k n) => match nw with
      | true => fin (andC c (cndO q (fitC k (0 - n)))) (.int k (0 - n))
      | false => some (c, .int k (k.wrap (0 - n)))
    | .xor, some (c, .int k n) => some (c, .int k (bitsV .xor k (if k.signed then -1 else k.max) n))
    | _, _ => none
  | .convert s d x => match T.find s, T.find d, rd q env x with
    | some _, some ⟨.int k, _, _, _, _, _⟩, some (c, .int _ n) => match nw with
      | true => fin (andC c (cndO q (fitC k n))) (.int k n)
      | false => some (c, .int k (k.wrap n))
    | some _, some ⟨.string, _, _, _, _, _⟩, some (c, .string x) => some (c, .string x)
    | _, _, _ => none
  | .makeInterface t x => match T.find t, rd q env x with
    | some ⟨.interface _, _, _, _, _, _⟩, _ => none
    | some _, some (c, v) => some (c, .iface t v)
    | _, _ => none
  | .field t x f => match fieldOf T t f, rd q env x with
    | some (fd, ti), some (c, .agg cs) => match ti.agg with
      | true => match cutL cs.toList fd.offset ti.size with
        | some l => some (c, .agg l.toArray)
        | none => none
      | false => match nthL cs.toList fd.offset with
        | some v => some (c, v)
        | none => none
    | _, _ => none
  | .extract x i => match rd q env x with
    | some (c, .tuple vs) => match nthL vs.toList i with
      | some v => some (c, v)
      | none => none
    | _ => none
  | .fieldAddr t x f => match fieldOf T t f, rd q env x with
    | some (⟨_, _, o, _, _, _, _⟩, ⟨_, _ + 1, _, _, _, _⟩), some (c, .pointer (some ⟨b, off, none⟩)) => some (c, .pointer (some ⟨b, off + o, none⟩))
    | _, _ => none
  | .indexAddr t x ix => match rd q env ix, rd q env x, T.find t with
    | some (c1, .int _ i), some (c2, .slice (some ⟨b, off, none⟩) len _), some ⟨.slice e, _, _, _, _, _⟩ => match T.find e, nat? nw i with
      | some ⟨_, sz, _, _, _, _⟩, some i' => fin (andC c1 (andC c2 (cnd q (0 ≤ i ∧ i < len)))) (.pointer (some ⟨b, off + i' * sz, none⟩))
      | _, _ => none
    | some (c1, .int _ i), some (c2, .pointer (some ⟨b, off, none⟩)), some ⟨.array len e, _, _, _, _, _⟩ => match T.find e, nat? nw i with
      | some ⟨_, sz, _, _, _, _⟩, some i' => fin (andC c1 (andC c2 (cnd q (0 ≤ i ∧ i < len)))) (.pointer (some ⟨b, off + i' * sz, none⟩))
      | _, _ => none
    | _, _, _ => none
  | .index t x ix => match rd q env ix, rd q env x, T.find t with
    | some (c1, .int _ i), some (c2, .string s), some ⟨.string, _, _, _, _, _⟩ => fin (andC c1 (andC c2 (cnd q (0 ≤ i ∧ i < s.size)))) (.int .u8 (byteAt s i))
    | some (c1, .int _ i), some (c2, .agg cs), some ⟨.array len e, _, _, _, _, _⟩ => match T.find e, nat? nw i with
      | some ⟨_, sz, _, _, false, _⟩, some i' => match nthL cs.toList (i' * sz) with
        | some v => fin (andC c1 (andC c2 (cnd q (0 ≤ i ∧ i < len)))) v
        | none => none
      | _, _ => none
    | _, _, _ => none
  | .slice t x lo hi none => match rdO q env lo, rdO q env hi, rd q env x with
    | some l, some h, some (c, v) => match evSlice T nw q t l h v with
      | some (c', v') => fin (andC c c') v'
      | none => none
    | _, _, _ => none
  | .call cl => evCall q T env cl
  | _ => none
end Go.GL
