/- One operation's value. -/
import Derived.Test.YtkoakmaihcheaacDoorGLb
namespace Go.GL
open Go

def intMin : IntKind → Int
  | .i8 => -128 | .i16 => -32768 | .i32 => -2147483648 | .i64 => -9223372036854775808 | _ => 0
def intMax : IntKind → Int
  | .i8 => 127 | .i16 => 32767 | .i32 => 2147483647 | .i64 => 9223372036854775807 | .u8 => 255 | .u16 => 65535 | .u32 => 4294967295 | .u64 => 18446744073709551615
/-- a number that fits its kind -/
def Fit (k : IntKind) (n : Int) : Prop := match k with
  | .i8 => -128 ≤ n ∧ n ≤ 127
  | .i16 => -32768 ≤ n ∧ n ≤ 32767
  | .i32 => -2147483648 ≤ n ∧ n ≤ 2147483647
  | .i64 => -9223372036854775808 ≤ n ∧ n ≤ 9223372036854775807
  | .u8 => 0 ≤ n ∧ n ≤ 255
  | .u16 => 0 ≤ n ∧ n ≤ 65535
  | .u32 => 0 ≤ n ∧ n ≤ 4294967295
  | .u64 => 0 ≤ n ∧ n ≤ 18446744073709551615
theorem wrap_fit {k : IntKind} {n : Int} (h : Fit k n) : k.wrap n = n := by
  unfold Fit at h
  cases k <;> simp only [] at h <;> simp only [IntKind.wrap, IntKind.bits, IntKind.signed] <;> (first | (simp; omega) | (simp; split <;> omega))

def fitC : IntKind → Int → Option Prop
  | .i8, n => some (-128 ≤ n ∧ n ≤ 127)
  | .i16, n => some (-32768 ≤ n ∧ n ≤ 32767)
  | .i32, n => some (-2147483648 ≤ n ∧ n ≤ 2147483647)
  | .i64, n => some (-9223372036854775808 ≤ n ∧ n ≤ 9223372036854775807)
  | .u8, n => some (0 ≤ n ∧ n ≤ 255)
  | .u16, n => some (0 ≤ n ∧ n ≤ 65535)
  | .u32, n => some (0 ≤ n ∧ n ≤ 4294967295)
  | .u64, n => some (0 ≤ n ∧ n ≤ 18446744073709551615)
theorem fitC_ok {k : IntKind} {n : Int} (h : Holds (fitC k n)) : Fit k n := by cases k <;> exact h
def bitsV (op : BinOp) (k : IntKind) (x y : Int) : Int :=
  let a := BitVec.ofInt k.bits x
  let b := BitVec.ofInt k.bits y
  match op with
  | .and => k.wrap (a &&& b).toNat
  | .or => k.wrap (a ||| b).toNat
  | .xor => k.wrap (a ^^^ b).toNat
  | _ => k.wrap (a &&& ~~~b).toNat
def shlV (k : IntKind) (x y : Int) : Int := k.wrap (x * 2 ^ (min y.toNat k.bits))
def shrV (k : IntKind) (x y : Int) : Int := x.fdiv (2 ^ (min y.toNat k.bits))

/-- Two whole numbers. 'nw': nothing is to be wrapped, and that is to be shown. -/
def evInt (nw : Bool) (op : BinOp) (k : IntKind) (a b : Int) : Option (Option Prop × Value) :=
  match op with
  | .add => match nw with
    | true => fin (fitC k (a + b)) (.int k (a + b))
    | false => some (none, .int k (k.wrap (a + b)))
  | .sub => match nw with
    | true => fin (fitC k (a - b)) (.int k (a - b))
    | false => some (none, .int k (k.wrap (a - b)))
  | .mul => match nw with
    | true => fin (fitC k (a * b)) (.int k (a * b))
    | false => some (none, .int k (k.wrap (a * b)))
  | .quo => match nw with
    | true => fin (andC (some (0 ≤ a ∧ 0 < b)) (fitC k (a / b))) (.int k (a / b))
    | false => some (some (b ≠ 0), .int k (k.wrap (a.tdiv b)))
  | .rem => match nw with
    | true => some (some (0 ≤ a ∧ 0 < b), .int k (a % b))
    | false => some (some (b ≠ 0), .int k (a.tmod b))
  | .and => some (none, .int k (bitsV .and k a b))
  | .or => some (none, .int k (bitsV .or k a b))
  | .xor => some (none, .int k (bitsV .xor k a b))
  | .andNot => some (none, .int k (bitsV .andNot k a b))
  | .eql => some (none, .bool (decide (a = b)))
  | .neq => some (none, .bool (!decide (a = b)))
  | .lss => some (none, .bool (decide (a < b)))
  | .leq => some (none, .bool (decide (a ≤ b)))
  | .gtr => some (none, .bool (decide (b < a)))
  | .geq => some (none, .bool (decide (b ≤ a)))
  | _ => none
theorem evInt_ok {P : Program} {nw : Bool} {op : BinOp} {k : IntKind} {a b : Int} {c : Option Prop} {v : Value} (h : evInt nw op k a b = some (c, v)) (hc : Holds c) (t : TypeId) (w : World) :
    (binOp op t (.int k a) (.int k b)).run P w = .ok v w := by
  cases op <;> simp only [evInt] at h <;>
    first
    | (cases h; done)
    | (cases nw <;> simp only [] at h <;>
        first
        | (obtain ⟨rfl, rfl⟩ := fin_eq h
           simp only [binOp, Op.intArith, ne_eq, not_true_eq_false, if_false, Sem.run_pure, wrap_fit (fitC_ok hc)]; done)
        | (obtain ⟨rfl, rfl⟩ := fin_eq h
           obtain ⟨⟨h1, h2⟩, h3⟩ := holds_andC hc
           have hb : ¬ b = 0 := by omega
           simp only [binOp, Op.intDiv, ne_eq, not_true_eq_false, if_false, hb, Sem.run_pure, Int.tdiv_eq_ediv_of_nonneg h1, wrap_fit (fitC_ok h3)]; done)
        | (simp only [Option.some.injEq, Prod.mk.injEq] at h
           obtain ⟨rfl, rfl⟩ := h
           simp only [Holds] at hc
           first
           | (simp only [binOp, Op.intArith, ne_eq, not_true_eq_false, if_false, Sem.run_pure]; done)
           | (have hb : ¬ b = 0 := hc
              simp only [binOp, Op.intDiv, ne_eq, not_true_eq_false, if_false, hb, Sem.run_pure]; done)
           | (obtain ⟨h1, h2⟩ := hc
              have hb : ¬ b = 0 := by omega
              simp only [binOp, Op.intDiv, ne_eq, not_true_eq_false, if_false, hb, Sem.run_pure, Int.tmod_eq_emod_of_nonneg h1]; done)))
    | (simp only [Option.some.injEq, Prod.mk.injEq] at h
       obtain ⟨rfl, rfl⟩ := h
       first
       | (simp only [binOp, Op.intBits, ne_eq, not_true_eq_false, if_false, Sem.run_pure, bitsV]; done)
       | (simp only [binOp, Op.intCmp, ne_eq, not_true_eq_false, if_false, Sem.run_pure, GT.gt, GE.ge, Int.beq_eq_decide_eq, bne]; done)
       | (simp [binOp, Op.intCmp]; done)
       | (simp [binOp, Op.intCmp]; rfl))

def evBin (T : Tab) (nw : Bool) (op : BinOp) (t : TypeId) (cx cy : Bool) : Value → Value → Option (Option Prop × Value)
  | .int k a, .int k' b => match op with
    | .shl => some (some (0 ≤ b), .int k (shlV k a b))
    | .shr => some (some (0 ≤ b), .int k (shrV k a b))
    | _ => match k, k' with
      | .i64, .i64 => evInt nw op .i64 a b
      | .i32, .i32 => evInt nw op .i32 a b
      | .i16, .i16 => evInt nw op .i16 a b
      | .i8, .i8 => evInt nw op .i8 a b
      | .u64, .u64 => evInt nw op .u64 a b
      | .u32, .u32 => evInt nw op .u32 a b
      | .u16, .u16 => evInt nw op .u16 a b
      | .u8, .u8 => evInt nw op .u8 a b
      | _, _ => none
  | .string a, .string b => match op with
    | .add => some (some (a.size + b.size ≤ 9223372036854775807), .string (a ++ b))
    | .eql => some (none, .bool (decide (a = b)))
    | .neq => some (none, .bool (!decide (a = b)))
    | _ => none
  | .bool a, .bool b => match op, T.find t with
    | .eql, some ⟨.bool, _, _, _, _, _⟩ => some (none, .bool (a == b))
    | .neq, some ⟨.bool, _, _, _, _, _⟩ => some (none, .bool (!(a == b)))
    | _, _ => none
  | .pointer x, .pointer none => match op, T.find t with
    | .eql, some ⟨.pointer _, _, _, _, _, _⟩ => some (none, .bool x.isNone)
    | .neq, some ⟨.pointer _, _, _, _, _, _⟩ => some (none, .bool (!x.isNone))
    | _, _ => none
  | .iface _ _, .nilIface => match op, T.find t with
    | .eql, some ⟨.interface _, _, _, _, _, _⟩ => some (none, .bool false)
    | .neq, some ⟨.interface _, _, _, _, _, _⟩ => some (none, .bool true)
    | _, _ => none
  | .iface t1 v1, .iface t2 v2 => match op, T.find t, Nat.beq t1 t2 with
    | .eql, some ⟨.interface _, _, _, _, _, _⟩, false => some (none, .bool false)
    | .neq, some ⟨.interface _, _, _, _, _, _⟩, false => some (none, .bool true)
    | .eql, some ⟨.interface _, _, _, _, _, _⟩, true => match T.find t1, v1, v2 with
      | some ⟨.int _, _, _, _, _, true⟩, .int .i64 a, .int .i64 b => some (none, .bool (decide (a = b)))
      | _, _, _ => none
    | .neq, some ⟨.interface _, _, _, _, _, _⟩, true => match T.find t1, v1, v2 with
      | some ⟨.int _, _, _, _, _, true⟩, .int .i64 a, .int .i64 b => some (none, .bool (!decide (a = b)))
      | _, _, _ => none
    | _, _, _ => none
  | .nilIface, .iface _ _ => match op, T.find t with
    | .eql, some ⟨.interface _, _, _, _, _, _⟩ => some (none, .bool false)
    | .neq, some ⟨.interface _, _, _, _, _, _⟩ => some (none, .bool true)
    | _, _ => none
  | .nilIface, .nilIface => match op, T.find t, (cx || cy) with
    | .eql, some ⟨.interface _, _, _, _, _, _⟩, true => some (none, .bool true)
    | .neq, some ⟨.interface _, _, _, _, _, _⟩, true => some (none, .bool false)
    | _, _, _ => none
  | .slice a _ _, .slice none _ _ => match op, T.find t, a with
    | .eql, some ⟨.slice _, _, _, _, _, _⟩, some _ => some (none, .bool false)
    | .neq, some ⟨.slice _, _, _, _, _, _⟩, some _ => some (none, .bool true)
    | .eql, some ⟨.slice _, _, _, _, _, _⟩, none => some (none, .bool true)
    | .neq, some ⟨.slice _, _, _, _, _, _⟩, none => some (none, .bool false)
    | _, _, _ => none
  | _, _ => none

def isConstO : Operand → Bool
  | .const _ => true
  | _ => false

theorem guard_free {P : Program} {w : World} {op : BinOp} {t : TypeId} {x y : Operand} {a b : Value}
    (h : ∀ xs ys, ¬ (a = .agg xs ∧ b = .agg ys)) (hn : a = .nilIface → b = .nilIface → (isConstO x || isConstO y) = true) :
    (eqGuard op t x y a b).run P w = .ok () w := by
  have key : ∀ z : Operand, isConstO z = (z matches .const _) := fun z => by cases z <;> rfl
  cases op <;> simp [eqGuard] <;>
  · cases a <;> cases b <;> simp
    · have := hn rfl rfl
      rw [key, key] at this
      simp at this
      intro h1 h2
      rcases this with h | h
      · cases x <;> simp_all
      · cases y <;> simp_all
    · exact absurd ⟨rfl, rfl⟩ (h _ _)

theorem str_ok {P : Program} {nw : Bool} {T : Tab} {op : BinOp} {t : TypeId} {cx cy : Bool} {a b : ByteArray} {c : Option Prop} {v : Value}
    (h : evBin T nw op t cx cy (.string a) (.string b) = some (c, v)) (hc : Holds c) (w : World) : (binOp op t (.string a) (.string b)).run P w = .ok v w := by
  have e : (a.toList == b.toList) = decide (a = b) := by
    rw [ByteArray.toList_eq, ByteArray.toList_eq, Bool.eq_iff_iff, beq_iff_eq, decide_eq_true_eq]
    constructor
    · intro h
      cases a; cases b; congr; exact Array.toList_inj.1 h
    · intro h; rw [h]
  cases op <;> simp only [evBin] at h <;> first
    | (cases h; done)
    | (cases h
       simp only [Holds] at hc
       simp only [binOp, Op.stringOp, e, Sem.run_pure]; done)
    | (cases h
       simp only [Holds] at hc
       have : ¬ (((a.size + b.size : Nat) : Int) > IntKind.i64.max) := by
         simp [IntKind.max, IntKind.signed, IntKind.bits]; omega
       simp only [binOp, Op.stringOp, this, if_false, Sem.run_pure]; done)

theorem bin_eq {P : Program} {t : TypeId} {x y : Value} {b : Bool} {w : World} (he : binOp .eql t x y = (do pure (.bool (← Op.equal t x y)))) (h : (Op.equalIn 10000 t x y).run P w = .ok b w) :
    (binOp .eql t x y).run P w = .ok (.bool b) w := by
  rw [he]
  have h' : (Op.equal t x y).run P w = .ok b w := h
  simp only [Sem.run_bind, h', Result.andThen_ok, Sem.run_pure]
theorem bin_ne {P : Program} {t : TypeId} {x y : Value} {b : Bool} {w : World} (he : binOp .neq t x y = (do pure (.bool (!(← Op.equal t x y))))) (h : (Op.equalIn 10000 t x y).run P w = .ok b w) :
    (binOp .neq t x y).run P w = .ok (.bool (!b)) w := by
  rw [he]
  have h' : (Op.equal t x y).run P w = .ok b w := h
  simp only [Sem.run_bind, h', Result.andThen_ok, Sem.run_pure]
section
variable {P : Program} {t : TypeId} {w : World} (d : Nat)
theorem equalIn_bool (h : P.underlying t = some .bool) (a b : Bool) : (Op.equalIn (d + 1) t (.bool a) (.bool b)).run P w = .ok (a == b) w := by
  simp [Op.equalIn, run_underlying h]
theorem equalIn_ptr_nil {e : TypeId} (h : P.underlying t = some (.pointer e)) (p : Option Addr) : (Op.equalIn (d + 1) t (.pointer p) (.pointer none)).run P w = .ok p.isNone w := by
  cases p <;> simp [Op.equalIn, run_underlying h]
theorem equalIn_iface_nil {m} (h : P.underlying t = some (.interface m)) (u : TypeId) (v : Value) : (Op.equalIn (d + 1) t (.iface u v) .nilIface).run P w = .ok false w := by
  simp [Op.equalIn, run_underlying h]
theorem equalIn_nil_iface {m} (h : P.underlying t = some (.interface m)) (u : TypeId) (v : Value) : (Op.equalIn (d + 1) t .nilIface (.iface u v)).run P w = .ok false w := by
  simp [Op.equalIn, run_underlying h]
theorem equalIn_other {m} (h : P.underlying t = some (.interface m)) {t1 t2 : TypeId} (hne : t1 ≠ t2) (u v : Value) : (Op.equalIn (d + 1) t (.iface t1 u) (.iface t2 v)).run P w = .ok false w := by
  simp [Op.equalIn, run_underlying h, hne]
theorem equalIn_ints {m} (h : P.underlying t = some (.interface m)) {t1 : TypeId} {i : TI} (hi : TIOk P t1 i) {k0 : IntKind} (hd : i.desc = .int k0) (hc : i.cmp = true) (a b : Int) : (Op.equalIn (d + 2) t (.iface t1 (.int .i64 a)) (.iface t1 (.int .i64 b))).run P w = .ok (decide (a = b)) w := by
  obtain ⟨x, hx, hr, _, _, _, hcmp⟩ := run_info hi w
  have hu : P.underlying t1 = some (.int k0) := hd ▸ hi.desc
  rw [hc] at hcmp
  simp [Op.equalIn, run_underlying h, hr, hcmp, run_underlying hu]
  rfl
theorem equalIn_nil_nil {m} (h : P.underlying t = some (.interface m)) : (Op.equalIn (d + 1) t .nilIface .nilIface).run P w = .ok true w := by
  simp [Op.equalIn, run_underlying h]
theorem equalIn_slice_nil {e : TypeId} (h : P.underlying t = some (.slice e)) (p : Option Addr) (l m l' m' : Nat) : (Op.equalIn (d + 1) t (.slice p l m) (.slice none l' m')).run P w = .ok p.isNone w := by
  cases p <;> simp [Op.equalIn, run_underlying h]
end
theorem evBin_ok {P : Program} {T : Tab} (hT : T.ok P) {nw : Bool} {op : BinOp} {t : TypeId} {x y : Operand} {a b : Value} {c : Option Prop} {v : Value}
    (h : evBin T nw op t (isConstO x) (isConstO y) a b = some (c, v)) (hc : Holds c) (w : World) :
    (do eqGuard op t x y a b; binOp op t a b).run P w = .ok v w := by
  have fin : (binOp op t a b).run P w = .ok v w → (∀ xs ys, ¬ (a = .agg xs ∧ b = .agg ys)) → (a = .nilIface → b = .nilIface → (isConstO x || isConstO y) = true) →
      (do eqGuard op t x y a b; binOp op t a b).run P w = .ok v w := fun h1 h2 h3 => by
    simp only [Sem.run_bind, guard_free h2 h3, Result.andThen_ok]; exact h1
  cases a with
  | int k a =>
    cases b with
    | int k' b =>
      refine fin ?_ (by simp) (by simp)
      cases op
      case shl =>
        simp only [evBin, Option.some.injEq, Prod.mk.injEq] at h
        obtain ⟨rfl, rfl⟩ := h
        have hb : ¬ b < 0 := by simp only [Holds] at hc; omega
        simp only [binOp, Op.shift, hb, if_false, Sem.run_pure, shlV]
      case shr =>
        simp only [evBin, Option.some.injEq, Prod.mk.injEq] at h
        obtain ⟨rfl, rfl⟩ := h
        have hb : ¬ b < 0 := by simp only [Holds] at hc; omega
        simp only [binOp, Op.shift, hb, if_false, Sem.run_pure, shrV]
      all_goals
        cases k <;> cases k' <;> simp only [evBin] at h <;> first
          | (cases h; done)
          | exact evInt_ok h hc t w
    | _ => simp [evBin] at h
  | string a =>
    cases b with
    | string b => exact fin (str_ok h hc w) (by simp) (by simp)
    | _ => simp [evBin] at h
  | bool a =>
    cases b with
    | bool b =>
      refine fin ?_ (by simp) (by simp)
      simp only [evBin] at h
      split at h
      · rename_i ht; cases h; exact bin_eq rfl (equalIn_bool 9999 (Tab.find_ok hT ht).desc _ _)
      · rename_i ht; cases h; exact bin_ne rfl (equalIn_bool 9999 (Tab.find_ok hT ht).desc _ _)
      · cases h
    | _ => simp [evBin] at h
  | pointer p =>
    cases b with
    | pointer q =>
      cases q with
      | some q => simp [evBin] at h
      | none =>
        refine fin ?_ (by simp) (by simp)
        simp only [evBin] at h
        split at h
        · rename_i ht; cases h; exact bin_eq rfl (equalIn_ptr_nil 9999 (Tab.find_ok hT ht).desc _)
        · rename_i ht; cases h; exact bin_ne rfl (equalIn_ptr_nil 9999 (Tab.find_ok hT ht).desc _)
        · cases h
    | _ => simp [evBin] at h
  | iface t1 v1 =>
    cases b with
    | iface t2 v2 =>
      refine fin ?_ (by simp) (by simp)
      simp only [evBin] at h
      split at h
      · rename_i ht hb; cases h; exact bin_eq rfl (equalIn_other 9999 (Tab.find_ok hT ht).desc (Nat.ne_of_beq_eq_false hb) _ _)
      · rename_i ht hb; cases h; exact bin_ne rfl (equalIn_other 9999 (Tab.find_ok hT ht).desc (Nat.ne_of_beq_eq_false hb) _ _)
      · rename_i ht hb
        have hb := Nat.eq_of_beq_eq_true hb
        subst hb
        split at h
        · rename_i h1; cases h; exact bin_eq rfl (equalIn_ints 9998 (Tab.find_ok hT ht).desc (Tab.find_ok hT h1) rfl rfl _ _)
        · cases h
      · rename_i ht hb
        have hb := Nat.eq_of_beq_eq_true hb
        subst hb
        split at h
        · rename_i h1; cases h; exact bin_ne rfl (equalIn_ints 9998 (Tab.find_ok hT ht).desc (Tab.find_ok hT h1) rfl rfl _ _)
        · cases h
      · cases h
    | nilIface =>
      refine fin ?_ (by simp) (by simp)
      simp only [evBin] at h
      split at h
      · rename_i ht; cases h; exact bin_eq rfl (equalIn_iface_nil 9999 (Tab.find_ok hT ht).desc _ _)
      · rename_i ht; cases h; exact bin_ne rfl (equalIn_iface_nil 9999 (Tab.find_ok hT ht).desc _ _)
      · cases h
    | _ => simp [evBin] at h
  | nilIface =>
    cases b with
    | iface t1 v1 =>
      refine fin ?_ (by simp) (by simp)
      simp only [evBin] at h
      split at h
      · rename_i ht; cases h; exact bin_eq rfl (equalIn_nil_iface 9999 (Tab.find_ok hT ht).desc _ _)
      · rename_i ht; cases h; exact bin_ne rfl (equalIn_nil_iface 9999 (Tab.find_ok hT ht).desc _ _)
      · cases h
    | nilIface =>
      simp only [evBin] at h
      split at h
      · rename_i ht hc'; cases h; exact fin (bin_eq rfl (equalIn_nil_nil 9999 (Tab.find_ok hT ht).desc)) (by simp) (fun _ _ => hc')
      · rename_i ht hc'; cases h; exact fin (bin_ne rfl (equalIn_nil_nil 9999 (Tab.find_ok hT ht).desc)) (by simp) (fun _ _ => hc')
      · cases h
    | _ => simp [evBin] at h
  | slice p l m =>
    cases b with
    | slice q l' m' =>
      cases q with
      | some q => simp [evBin] at h
      | none =>
        refine fin ?_ (by simp) (by simp)
        simp only [evBin] at h
        split at h
        all_goals first
          | (cases h; done)
          | (rename_i ht; cases h; exact bin_eq rfl (equalIn_slice_nil 9999 (Tab.find_ok hT ht).desc _ _ _ _ _))
          | (rename_i ht; cases h; exact bin_ne rfl (equalIn_slice_nil 9999 (Tab.find_ok hT ht).desc _ _ _ _ _))
    | _ => simp [evBin] at h
  | _ => cases b <;> simp [evBin] at h
end Go.GL
