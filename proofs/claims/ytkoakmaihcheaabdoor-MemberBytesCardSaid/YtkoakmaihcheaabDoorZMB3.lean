/- Contracts of functions of the given program, and plain laws: parts of the proofs of laws. -/
import Derived.Test.YtkoakmaihcheaabDoorZMB2
/- Contracts of functions of the given program, and plain laws on what they compute: parts of the proofs of laws. -/
namespace Go.Proofs.YtkoakmaihcheaabDoor
open Go Go.GL

theorem rdN_rest : ∀ (l : List UInt8) (i n : Nat) (m : Nat) (t : List UInt8), rdN i n l = .ok (m, t) → t.length ≤ l.length ∧ (i ≤ 8 → n < 128 ^ i → (m : Int) < 128 ^ 9)
  | [], i, n, m, t, h => by cases h
  | c :: r, i, n, m, t, h => by
    have hc8 : c.toNat < 256 := c.toNat_lt
    have h1 : c.toNat % 128 * 128 ^ i ≤ 127 * 128 ^ i := Nat.mul_le_mul_right _ (by omega)
    rw [rdN_cons] at h
    split at h
    · cases h
    · rename_i hC
      split at h
      · cases h
        refine ⟨by simp, fun hi hn => ?_⟩
        have := pow128 i hi
        omega
      · have ih := rdN_rest r (i + 1) _ m t h
        refine ⟨by simp only [List.length_cons]; omega, fun hi hn => ih.2 (by omega) (by rw [Nat.pow_succ]; omega)⟩
theorem numR_bd (s : PR) : (numR s).2.1.length ≤ s.1.length ∧ 0 ≤ (numR s).1 ∧ (numR s).1 < 128 ^ 9 := by
  by_cases he : s.2 = 0
  · obtain ⟨l, e⟩ := s
    obtain rfl : e = 0 := he
    rw [numR_zero]
    cases h : rdN 0 0 l with
    | ok x => obtain ⟨m, t⟩ := x; have := rdN_rest l 0 0 m t h; exact ⟨this.1, by simp [numF], this.2 (by omega) (by simp)⟩
    | error e => simp [numF]
  · rw [numR_err he]; exact ⟨Nat.le_refl _, Int.le_refl _, (by decide : (0 : Int) < 128 ^ 9)⟩
theorem rdN_numB : ∀ (k n i acc : Nat) (rest : List UInt8), n ≤ k → i ≤ 8 → ((acc + n * 128 ^ i : Nat) : Int) ≤ widest → (0 < i → n ≠ 0) → rdN i acc (numB n ++ rest) = .ok (acc + n * 128 ^ i, rest) := by
  intro k
  induction k with
  | zero =>
    intro n i acc rest hk hi hw hz
    obtain rfl : n = 0 := by omega
    rw [numB_lt (by omega), List.singleton_append, rdN_cons, ofNat_toNat (by omega)]
    rw [if_neg (by omega), if_pos (by omega)]
  | succ k ih =>
    intro n i acc rest hk hi hw hz
    by_cases hn : n < 128
    · rw [numB_lt hn, List.singleton_append, rdN_cons, ofNat_toNat (by omega), Nat.mod_eq_of_lt hn]
      rw [if_neg (by omega), if_pos hn]
    · have hp : 0 < 128 ^ i := Nat.pow_pos (by omega)
      have hsplit : n * 128 ^ i = n % 128 * 128 ^ i + n / 128 * 128 ^ (i + 1) := by
        have h1 : n = n % 128 + n / 128 * 128 := by omega
        conv => lhs; rw [h1]
        rw [Nat.add_mul, Nat.pow_succ, Nat.mul_assoc (n / 128), Nat.mul_comm 128]
      have hi8 : i ≠ 8 := by
        intro e
        subst e
        have : 128 * 128 ^ 8 ≤ n * 128 ^ 8 := Nat.mul_le_mul_right _ (by omega)
        unfold widest at hw
        omega
      rw [numB_ge hn, List.cons_append, rdN_cons, ofNat_toNat (by omega), show (n % 128 + 128) % 128 = n % 128 by omega]
      rw [if_neg (by omega), if_neg (by omega), ih (n / 128) (i + 1) _ rest (by omega) (by omega) (by rw [hsplit] at hw; omega) (by omega), hsplit, Nat.add_assoc]
theorem numR_numB {x : Int} (hx : 0 ≤ x ∧ x ≤ widest) (rest : List UInt8) : numR (numB (clampN x) ++ rest, 0) = (x, (rest, 0)) := by
  have hc : (clampN x : Int) = x := by unfold clampN; omega
  rw [numR_zero, rdN_numB _ _ 0 0 rest (Nat.le_refl _) (by omega) (by rw [Nat.pow_zero, Nat.mul_one, Nat.zero_add, hc]; exact hx.2) (by omega)]
  simp only [numF, Nat.pow_zero, Nat.mul_one, Nat.zero_add, hc]
theorem rdN_wide : ∀ (l : List UInt8) (i n : Nat) {m : Nat} {t : List UInt8}, i ≤ 8 → n < 128 ^ i → rdN i n l = .ok (m, t) → (m : Int) ≤ widest
  | [], _, _, _, _, _, _, h => by cases h
  | c :: l, i, n, m, t, hi, hn, h => by
    rw [rdN_cons] at h
    split at h
    · cases h
    · rename_i hc
      have h127 : c.toNat % 128 * 128 ^ i ≤ 127 * 128 ^ i := Nat.mul_le_mul_right _ (by omega)
      have hlt : n + c.toNat % 128 * 128 ^ i < 128 ^ (i + 1) := by rw [Nat.pow_succ]; omega
      split at h
      · cases h
        by_cases h8 : i = 8
        · have : ¬ widest < ((n + c.toNat % 128 * 128 ^ i : Nat) : Int) := fun h => hc (.inl ⟨h8, .inr h⟩)
          omega
        · have : (128 : Nat) ^ (i + 1) ≤ 128 ^ 8 := Nat.pow_le_pow_right (by decide) (by omega)
          unfold widest
          omega
      · rename_i hc2
        have : ¬ i = 8 := fun h8 => hc (.inl ⟨h8, .inl (by omega)⟩)
        exact rdN_wide l (i + 1) _ (by omega) hlt h
theorem numR_wide (s : PR) : 0 ≤ (numR s).1 ∧ (numR s).1 ≤ widest := by
  refine ⟨(numR_bd s).2.1, ?_⟩
  by_cases he : s.2 = 0
  · obtain ⟨l, e⟩ := s
    obtain rfl : e = 0 := he
    rw [numR_zero]
    cases h : rdN 0 0 l with
    | ok x => obtain ⟨m, t⟩ := x; exact rdN_wide l 0 0 (by omega) (by simp) h
    | error e => simp [numF, widest]
  · rw [numR_err he]; simp [widest]
theorem rdN_inv : ∀ (l : List UInt8) (i n : Nat) {m : Nat} {t : List UInt8}, rdN i n l = .ok (m, t) → ∃ d, m = n + d * 128 ^ i ∧ l = numB d ++ t ∧ (0 < i → d ≠ 0)
  | [], _, _, _, _, h => by cases h
  | c :: l, i, n, m, t, h => by
    have hc8 : c.toNat < 256 := c.toNat_lt
    rw [rdN_cons] at h
    split at h
    · cases h
    · rename_i hc
      split at h
      · rename_i h128
        cases h
        refine ⟨c.toNat, by rw [Nat.mod_eq_of_lt h128], ?_, fun hi h0 => hc (.inr ⟨hi, h0⟩)⟩
        rw [numB_lt h128]
        simp
      · rename_i h128
        obtain ⟨d, e1, e2, e3⟩ := rdN_inv l (i + 1) _ h
        have hd := e3 (by omega)
        refine ⟨c.toNat % 128 + 128 * d, ?_, ?_, fun _ => by omega⟩
        · rw [e1, Nat.pow_succ, Nat.add_mul, Nat.add_assoc, Nat.mul_comm 128 d, Nat.mul_assoc, Nat.mul_comm 128 (128 ^ i)]
        · rw [numB_ge (by omega), e2]
          have h1 : (c.toNat % 128 + 128 * d) % 128 + 128 = c.toNat := by omega
          have h2 : (c.toNat % 128 + 128 * d) / 128 = d := by omega
          rw [h1, h2]
          simp
theorem rdN_err : ∀ (l : List UInt8) (i n : Nat) {e : Int}, rdN i n l = .error e → e ≠ 0
  | [], _, _, _, h => by cases h; decide
  | c :: l, i, n, e, h => by
    rw [rdN_cons] at h
    split at h
    · cases h; decide
    · split at h
      · cases h
      · exact rdN_err l _ _ h
/-- what was read without a fault stood there -/
theorem numR_inv {s : PR} (h : (numR s).2.2 = 0) : s.2 = 0 ∧ s.1 = numB (clampN (numR s).1) ++ (numR s).2.1 ∧ 0 ≤ (numR s).1 ∧ (numR s).1 ≤ widest := by
  obtain ⟨l, e⟩ := s
  by_cases he : e = 0
  · subst he
    rw [numR_zero] at h ⊢
    cases hr : rdN 0 0 l with
    | ok x =>
      obtain ⟨m, t⟩ := x
      obtain ⟨d, e1, e2, _⟩ := rdN_inv l 0 0 hr
      have hw := rdN_wide l 0 0 (by decide) (by decide) hr
      have hd : d = m := by simp at e1; omega
      subst hd
      refine ⟨rfl, ?_, by simp [numF], by simpa [numF] using hw⟩
      dsimp only [numF]
      rw [clamp_nat _ hw, e2]
    | error e =>
      rw [hr] at h
      exact absurd h (rdN_err l 0 0 hr)
  · rw [numR_err he] at h
    exact absurd h he
set_option maxRecDepth 10000 in
theorem read0_ok (a : Option Addr) (n c : Nat) : RT G 51 [.slice a n c] (fun _ => True) (fun x E => ∃ r, x = .pointer (some ⟨r, 0, none⟩) ∧ E = [blk r [.slice a n c, .int .i64 0] 122]) := by
  refine RT.enter Tryd.func51 rfl (by decide) rfl Tryd.ntmps51 rfl (fun A _ hA => ?_)
  repeat (first | refine GO ?_ | refine NW fun _ => ?_)
  exact ret1 rfl ⟨[_], ⟨_, rfl, rfl⟩, Imp.refl _⟩
end Go.Proofs.YtkoakmaihcheaabDoor
/- Contracts of functions of the given program, and plain laws on what they compute: parts of the proofs of laws. -/

namespace Go.Proofs.YtkoakmaihcheaabDoor
open Go Go.GL

def member : ByteArray := ⟨#[109, 101, 109, 98, 101, 114]⟩
set_option maxRecDepth 10000 in
theorem wrong_ok (v c : Int) (h : c ≠ 0) : Triple G 36 [.int .i64 v, .int .i64 c] [] (Fault member v c) := by
  refine Triple.enter Tryd.func36 rfl (by decide) rfl Tryd.ntmps36 rfl (fun F => ?_)
  repeat (first | refine GO ?_ | refine NW fun _ => ?_)
  refine WL.step rfl (OP.call rfl rfl (wrap_ok _ _ _ h) PS rfl rfl ?_)
  rintro v M ⟨b, rfl, rfl⟩
  repeat (first | refine GO ?_ | refine NW fun _ => ?_)
  exact ret1 rfl ⟨_, ⟨_, rfl, rfl⟩, Imp.refl _⟩

set_option maxRecDepth 10000 in
theorem there_ro (v : Int) : RO G 35 [.int .i64 v] (fun _ => True) (.bool (decide (0 ≤ v ∧ v < 4))) := by
  refine RO.enter Tryd.func35 rfl (by decide) rfl Tryd.ntmps35 rfl (fun A _ hA => ?_) (fun _ _ _ h => h)
  repeat (first | refine GO ?_ | refine NW fun _ => ?_)
  refine ret1 rfl ⟨?_, List.Mem.head _⟩
  simp

def vI (n : Int) : Value := .int .i64 n
def bools (f : List Bool) : List Value := f.map Value.bool
/-- the first volumes, one by one -/
def newM : List Int → List Bool → Except (Int × Int) (List Bool)
  | [], f => .ok f
  | v :: r, f => if 0 ≤ v ∧ v < 4 then (if f.getD v.toNat false = true then .error (v, 1) else newM r (f.set v.toNat true)) else .error (v, 5)
theorem newM_cons (v : Int) (r : List Int) (f : List Bool) : newM (v :: r) f = if 0 ≤ v ∧ v < 4 then (if f.getD v.toNat false = true then .error (v, 1) else newM r (f.set v.toNat true)) else .error (v, 5) := rfl
def NewPost (l : List Int) (v : Value) (E : List Assn) : Prop :=
  match newM l [false, false, false, false] with
  | .ok f => ∃ p, v = .tuple #[.pointer (some ⟨p, 0, none⟩), .nilIface] ∧ E = [blk p (bools f ++ [.slice none 0 0]) 69]
  | .error (at_, c) => ∃ e, v = .tuple #[.pointer none, e] ∧ Fault member at_ c e E

set_option maxRecDepth 10000 in
theorem new_ok (a : Option Addr) (n c : Nat) (l : List Int) (hn : n < 1000000) : RT G 9 [.slice a n c] (readS a n 1 (l.map vI)) (NewPost l) := by
  refine RT.enter Tryd.func9 rfl (by decide) rfl Tryd.ntmps9 rfl (fun A hu hA => ?_)
  have hM : ∀ {L}, A ∈ L → Ent L (readS a n 1 (l.map vI)) := fun m => Ent.mem m hu hA
  refine WC.fact (Ent.len (hM MM)) (fun hlen => ?_)
  have hlen : l.length = n := by simpa using hlen
  repeat (first | refine GO ?_ | refine NW fun _ => ?_)
  rename_i p
  refine WC.loop (σ := Nat × List Bool) (fun s => s.1 ≤ n ∧ s.2.length = 4 ∧ newM (l.drop s.1) s.2 = newM l [false, false, false, false])
    (fun s => [(4, .val (.pointer (some ⟨p, 0, none⟩))), (9, .val (.slice a n c)), (10, .val (.int .i64 n)), (11, .val (.int .i64 s.1))])
    (fun s => [blk p (bools s.2 ++ [.slice none 0 0]) 69, A]) (fun s => n - s.1) (0, [false, false, false, false]) ⟨Nat.zero_le _, rfl, rfl⟩ ⟨rfl, rfl, rfl, rfl, trivial⟩ (Imp.refl _) ?_
  rintro ⟨k, f⟩ ⟨hk, hf, hm⟩
  dsimp only at hk hf hm ⊢
  obtain ⟨f0, f1, f2, f3, rfl⟩ : ∃ f0 f1 f2 f3, f = [f0, f1, f2, f3] := by
    match f, hf with
    | [f0, f1, f2, f3], _ => exact ⟨f0, f1, f2, f3, rfl⟩
  repeat (first | refine GO ?_ | refine NW fun _ => ?_)
  refine WC.cond rfl (fun hb => ?_) (fun hb => ?_)
  · have hb : k < n := by simpa using hb
    repeat (first | refine GO ?_ | refine NW fun _ => ?_)
    refine WL.fact (Ent.some (hM MM) (by omega)) ?_
    rintro ⟨b, off, rfl⟩
    have hlk : k < l.length := by omega
    repeat (first | refine GO ?_ | refine NW fun _ => ?_)
    refine WL.step rfl (OP.load1 (v := .int .i64 l[k]) rfl rfl rfl rfl (Ent.elem (hM MM) rfl (by simp [vI, hlk])) rfl rfl ?_)
    repeat (first | refine GO ?_ | refine NW fun _ => ?_)
    have hdrop : l.drop k = l[k] :: l.drop (k + 1) := List.drop_eq_getElem_cons hlk
    generalize hv : l[k] = v at *
    rw [hdrop, newM_cons] at hm
    refine WL.step rfl (OP.callRO rfl rfl (there_ro _) (fun _ _ => trivial) rfl rfl ?_)
    repeat (first | refine GO ?_ | refine NW fun _ => ?_)
    refine WC.cond rfl (fun hb1 => ?_) (fun hb1 => ?_)
    · have h1 : ¬ (0 ≤ v ∧ v < 4) := by intro h; simp [h] at hb1
      rw [if_neg h1] at hm
      repeat (first | refine GO ?_ | refine NW fun _ => ?_)
      refine WL.step rfl (OP.call (pre := []) (F := _) rfl rfl (wrong_ok _ _ (by decide)) (Imp.refl _) rfl rfl ?_)
      rintro v' E ⟨b', rfl, rfl⟩
      repeat (first | refine GO ?_ | refine NW fun _ => ?_)
      refine ret2 rfl rfl ⟨[_], ?_, II⟩
      unfold NewPost
      rw [← hm]
      exact ⟨_, rfl, ⟨_, rfl, rfl⟩⟩
    · have h1 : 0 ≤ v ∧ v < 4 := by simpa using hb1
      rw [if_pos h1] at hm
      obtain rfl | rfl | rfl | rfl : v = 0 ∨ v = 1 ∨ v = 2 ∨ v = 3 := by omega
      all_goals
        repeat (first | refine GO ?_ | refine NW fun _ => ?_)
        refine WC.cond rfl (fun hb2 => ?_) (fun hb2 => ?_)
        · subst hb2
          replace hm := hm.symm.trans (if_pos rfl)
          repeat (first | refine GO ?_ | refine NW fun _ => ?_)
          refine WL.step rfl (OP.call (pre := []) (F := _) rfl rfl (wrong_ok _ _ (by decide)) (Imp.refl _) rfl rfl ?_)
          rintro v' E ⟨b', rfl, rfl⟩
          repeat (first | refine GO ?_ | refine NW fun _ => ?_)
          refine ret2 rfl rfl ⟨[_], ?_, II⟩
          unfold NewPost
          rw [hm]
          exact ⟨_, rfl, ⟨_, rfl, rfl⟩⟩
        · subst hb2
          replace hm := hm.symm.trans (if_neg (by simp))
          repeat (first | refine GO ?_ | refine NW fun _ => ?_)
          exact ⟨(k + 1, _), ⟨by omega, rfl, hm.symm⟩, by dsimp only; omega, ⟨rfl, rfl, rfl, rfl, trivial⟩, Imp.refl _⟩
  · have hb : k = n := by simp at hb; omega
    subst hb
    repeat (first | refine GO ?_ | refine NW fun _ => ?_)
    refine ret2 rfl rfl ⟨[_], ?_, II⟩
    unfold NewPost
    rw [← hm, List.drop_eq_nil_of_le (by omega)]
    exact ⟨_, rfl, rfl⟩
end Go.Proofs.YtkoakmaihcheaabDoor
/- Contracts of functions of the given program, and plain laws on what they compute: parts of the proofs of laws. -/

namespace Go.Proofs.YtkoakmaihcheaabDoor
open Go Go.GL

abbrev Ch := Int × Int × Bool
def encC (c : Ch) : List Value := [.int .i64 c.1, .int .i64 c.2.1, .bool c.2.2]
def encL (l : List Ch) : List Value := l.flatMap encC
theorem encL_length (l : List Ch) : (encL l).length = l.length * 3 := by
  induction l with
  | nil => rfl
  | cons c r ih => simp only [encL, List.flatMap_cons, List.length_append, List.length_cons] at *; rw [ih]; simp [encC]; omega
theorem encL_at (l : List Ch) (k : Nat) (h : k < l.length) : encC l[k] = ((encL l).drop (k * 3)).take 3 := by
  induction l generalizing k with
  | nil => simp at h
  | cons c r ih =>
    cases k with
    | zero => simp [encL, encC]
    | succ k =>
      have e : (k + 1) * 3 = 3 + k * 3 := by omega
      have := ih k (by simpa using h)
      simp only [encL, List.flatMap_cons, List.getElem_cons_succ] at *
      rw [this, e, ← List.drop_drop]
      simp [encC]
theorem encL_get (l : List Ch) (k j : Nat) (h : k < l.length) (hj : j < 3) : (encL l)[k * 3 + j]? = (encC l[k])[j]? := by
  rw [encL_at l k h, List.getElem?_take, if_pos hj, List.getElem?_drop]
theorem encL_snoc (l : List Ch) (c : Ch) : encL (l ++ [c]) = encL l ++ encC c := by simp [encL]
def step (s : List Bool) (c : Ch) : List Bool := s.set c.2.1.toNat (!c.2.2)
/-- who belongs behind some changes -/
def after (f : List Bool) (l : List Ch) : List Bool := l.foldl step f
theorem after_length (f : List Bool) (l : List Ch) : (after f l).length = f.length := by
  induction l generalizing f with
  | nil => rfl
  | cons c r ih => simp only [after, List.foldl_cons] at *; rw [ih]; simp [step]
theorem after_snoc (f : List Bool) (l : List Ch) (c : Ch) : after f (l ++ [c]) = step (after f l) c := by simp [after]
theorem four {f : List Bool} (h : f.length = 4) : ∃ a b c d, f = [a, b, c, d] := by
  match f, h with
  | [a, b, c, d], _ => exact ⟨a, b, c, d, rfl⟩
def grpR (p : Nat) (a : Option Addr) (cap : Nat) (f : List Bool) (ch : List Ch) : Assn := fun h => cellsAt p 0 (bools f ++ [.slice a ch.length cap]) h ∧ readS a ch.length 3 (encL ch) h
theorem up_grpR (p : Nat) (a : Option Addr) (cap : Nat) (f : List Bool) (ch : List Ch) : Up (grpR p a cap f ch) := fun h k l ⟨x, y⟩ => ⟨up_cellsAt _ _ _ h k l x, up_readS _ _ _ _ h k l y⟩
/-- the volumes of the changes are such -/
def Vols (ch : List Ch) : Prop := ∀ c ∈ ch, 0 ≤ c.2.1 ∧ c.2.1 < 4

set_option maxRecDepth 10000 in
theorem behind_ro (p : Nat) (a : Option Addr) (cap : Nat) (f : List Bool) (ch : List Ch) (many : Nat) (hf : f.length = 4) (hv : Vols ch) (hm : many ≤ ch.length) (hc : ch.length ≤ cap) (hs : ch.length < 1000000) :
    RO G 38 [.pointer (some ⟨p, 0, none⟩), .int .i64 many] (grpR p a cap f ch) (.agg (bools (after f (ch.take many))).toArray) := by
  refine RO.enter Tryd.func38 rfl (by decide) rfl Tryd.ntmps38 rfl (fun A hu hA => ?_) (up_grpR _ _ _ _ _)
  have hE1 : ∀ {L}, A ∈ L → Ent L (cellsAt p 0 (bools f ++ [.slice a ch.length cap])) := fun m => Ent.mem m hu fun k x => (hA k x).1
  have hE2 : ∀ {L}, A ∈ L → Ent L (readS a ch.length 3 (encL ch)) := fun m => Ent.mem m hu fun k x => (hA k x).2
  obtain ⟨f0, f1, f2, f3, rfl⟩ := four hf
  repeat (first | refine GO ?_ | refine NW fun _ => ?_)
  refine WL.step rfl (OP.loadA (l := bools [f0, f1, f2, f3]) rfl rfl rfl rfl (Ent.sub (i := 0) (hE1 MM) rfl) rfl rfl rfl ?_)
  repeat (first | refine GO ?_ | refine NW fun _ => ?_)
  refine WL.step rfl (OP.load1 (v := .slice a ch.length cap) rfl rfl rfl rfl (Ent.one (i := 4) (hE1 MM) rfl) rfl rfl ?_)
  repeat (first | refine GO ?_ | refine NW fun _ => ?_)
  rename_i r q
  refine WC.loop (σ := Nat) (fun k => k ≤ many)
    (fun k => [(4, .val (.pointer (some ⟨r, 0, none⟩))), (5, .val (.pointer (some ⟨q, 0, none⟩))), (17, .val (.slice a many cap)), (18, .val (.int .i64 many)), (19, .val (.int .i64 k))])
    (fun k => [blk q (bools (after [f0, f1, f2, f3] (ch.take k))) 66, blk r (bools [false, false, false, false]) 66, A]) (fun k => many - k) 0 (Nat.zero_le _) ⟨rfl, rfl, rfl, rfl, rfl, trivial⟩ (Imp.refl _) ?_
  rintro k hk
  obtain ⟨s0, s1, s2, s3, hsv⟩ := four (show (after [f0, f1, f2, f3] (ch.take k)).length = 4 by rw [after_length]; rfl)
  rw [hsv]
  repeat (first | refine GO ?_ | refine NW fun _ => ?_)
  refine WC.cond rfl (fun hb => ?_) (fun hb => ?_)
  · have hb : k < many := by simpa using hb
    have hkl : k < ch.length := by omega
    repeat (first | refine GO ?_ | refine NW fun _ => ?_)
    refine WL.fact (Ent.some (hE2 MM) (by omega)) ?_
    rintro ⟨b, off, rfl⟩
    repeat (first | refine GO ?_ | refine NW fun _ => ?_)
    refine WL.step rfl (OP.loadA (l := encC ch[k]) rfl rfl rfl rfl (Ent.elems (hE2 MM) rfl (encL_at _ _ hkl)) rfl rfl rfl ?_)
    have htake : ch.take (k + 1) = ch.take k ++ [ch[k]] := by rw [List.take_succ_eq_append_getElem hkl]
    obtain ⟨v0, v1⟩ := hv ch[k] (List.getElem_mem _)
    have hst := after_snoc [f0, f1, f2, f3] (ch.take k) ch[k]
    rw [← htake, hsv] at hst
    generalize ch[k] = c at *
    obtain ⟨cm, cv, cg⟩ := c
    dsimp only at v0 v1
    obtain rfl | rfl | rfl | rfl : cv = 0 ∨ cv = 1 ∨ cv = 2 ∨ cv = 3 := by omega
    all_goals
      repeat (first | refine GO ?_ | refine NW fun _ => ?_)
      exact ⟨k + 1, by omega, by omega, ⟨rfl, rfl, rfl, rfl, rfl, trivial⟩, by rw [hst]; exact II⟩
  · have hb : k = many := by simp at hb; omega
    subst hb
    repeat (first | refine GO ?_ | refine NW fun _ => ?_)
    refine retA (l := bools [s0, s1, s2, s3]) rfl rfl rfl rfl (HasCut.ent (n := 4) HC).1 ⟨?_, MM⟩
    rw [hsv]
end Go.Proofs.YtkoakmaihcheaabDoor
/- Contracts of functions of the given program, and plain laws on what they compute: parts of the proofs of laws. -/

namespace Go.Proofs.YtkoakmaihcheaabDoor
open Go Go.GL

/-- the places at which a set has 'true' -/
def listM (f : List Bool) : List Int := ((List.range f.length).filter (fun i => f.getD i false)).map Int.ofNat
def listP (f : List Bool) (k : Nat) : List Int := ((List.range k).filter (fun i => f.getD i false)).map Int.ofNat
theorem listP_succ (f : List Bool) (k : Nat) : listP f (k + 1) = if f.getD k false = true then listP f k ++ [(k : Int)] else listP f k := by
  unfold listP
  rw [List.range_succ, List.filter_append, List.map_append]
  rw [List.filter_cons, List.filter_nil]
  split <;> simp
theorem listP_len (f : List Bool) (k : Nat) : (listP f k).length ≤ k := by
  unfold listP
  rw [List.length_map]
  exact Nat.le_trans (List.length_filter_le _ _) (by simp)
/-- a fresh slice of whole numbers -/
def Ints (l : List Int) (v : Value) (E : List Assn) : Prop := ∃ a cap, v = .slice a l.length cap ∧ E = [ownS a l.length cap 3 1 (l.map vI)]

set_option maxRecDepth 10000 in
theorem list_ok (f : List Bool) (hf : f.length = 4) : RT G 39 [.agg (bools f).toArray] (fun _ => True) (Ints (listM f)) := by
  obtain ⟨f0, f1, f2, f3, rfl⟩ := four hf
  refine RT.enter Tryd.func39 rfl (by decide) rfl Tryd.ntmps39 rfl (fun A hu hA => ?_)
  repeat (first | refine GO ?_ | refine NW fun _ => ?_)
  refine WC.imp (Imp.trans Imp.drop (Imp.nilS 3 1)) ?_
  refine WC.loop (σ := Nat × Nat × Option Addr × Nat × List Int) (fun s => s.1 ≤ 4 ∧ s.2.2.2.2 = listP [f0, f1, f2, f3] s.1 ∧ s.2.1 = s.2.2.2.2.length)
    (fun s => [(3, .val (.slice s.2.2.1 s.2.1 s.2.2.2.1)), (6, .val (.agg #[.bool f0, .bool f1, .bool f2, .bool f3])), (7, .val (.int .i64 s.1))])
    (fun s => [ownS s.2.2.1 s.2.1 s.2.2.2.1 3 1 (s.2.2.2.2.map vI), A]) (fun s => 4 - s.1) (0, 0, none, 0, []) ⟨by simp, rfl, rfl⟩ ⟨rfl, rfl, rfl, trivial⟩ (Imp.refl _) ?_
  rintro ⟨k, n, a, cap, l⟩ ⟨hk, hl, hn⟩
  dsimp only at hk hl hn ⊢
  have hsucc := listP_succ [f0, f1, f2, f3] k
  have hlen := listP_len [f0, f1, f2, f3] k
  rw [← hl] at hsucc hlen
  obtain rfl | rfl | rfl | rfl | rfl : k = 0 ∨ k = 1 ∨ k = 2 ∨ k = 3 ∨ k = 4 := by omega
  rotate_left 4
  · repeat (first | refine GO ?_ | refine NW fun _ => ?_)
    exact ret1 rfl ⟨[_], ⟨a, cap, by rw [hn, hl]; rfl, by rw [hn, hl]; rfl⟩, Imp.refl _⟩
  all_goals
    repeat (first | refine GO ?_ | refine NW fun _ => ?_)
    refine WC.cond rfl (fun hb => ?_) (fun hb => ?_)
    · subst hb
      repeat (first | refine GO ?_ | refine NW fun _ => ?_)
      refine WL.step rfl (OP.append rfl rfl rfl rfl rfl rfl rfl rfl rfl P1 (Ent.own MM) rfl (by omega) (by omega) rfl rfl (fun a' cap' => ?_))
      repeat (first | refine GO ?_ | refine NW fun _ => ?_)
      exact ⟨(_, _, a', cap', l ++ [_]), ⟨by simp, hsucc.symm, by simp [hn]⟩, by simp, ⟨rfl, rfl, rfl, trivial⟩, by rw [List.map_append]; exact II⟩
    · subst hb
      repeat (first | refine GO ?_ | refine NW fun _ => ?_)
      exact ⟨(_, _, a, cap, l), ⟨by simp, hsucc.symm, hn⟩, by simp, ⟨rfl, rfl, rfl, trivial⟩, Imp.refl _⟩
end Go.Proofs.YtkoakmaihcheaabDoor
/- Contracts of functions of the given program, and plain laws on what they compute: parts of the proofs of laws. -/

namespace Go.Proofs.YtkoakmaihcheaabDoor
open Go Go.GL

/-- so many changes count at a marker -/
def cnt (m : Int) (ch : List Ch) : Nat := (ch.takeWhile (fun c => decide (c.1 ≤ m))).length
theorem cnt_le (m : Int) (ch : List Ch) : cnt m ch ≤ ch.length := by unfold cnt; exact (List.takeWhile_sublist _).length_le
theorem cnt_lt {m : Int} {ch : List Ch} {k : Nat} (h : k < ch.length) (hk : ∀ j (hj : j < k), (ch[j]'(by omega)).1 ≤ m) : (ch[k].1 ≤ m → k < cnt m ch) ∧ (¬ ch[k].1 ≤ m → cnt m ch = k) := by
  induction ch generalizing k with
  | nil => simp at h
  | cons c r ih =>
    cases k with
    | zero =>
      unfold cnt
      rw [List.takeWhile_cons]
      constructor
      · intro hc; simp only [List.getElem_cons_zero] at hc; simp [hc]
      · intro hc; simp only [List.getElem_cons_zero] at hc; simp [hc]
    | succ k =>
      have h0 := hk 0 (by omega)
      simp only [List.getElem_cons_zero] at h0
      have := ih (k := k) (by simpa using h) (fun j hj => by have := hk (j + 1) (by omega); simpa using this)
      unfold cnt at *
      rw [List.takeWhile_cons]
      simp only [h0, decide_true, if_true, List.length_cons, List.getElem_cons_succ]
      exact ⟨fun x => by have := this.1 x; omega, fun x => by have := this.2 x; omega⟩
theorem cnt_all {m : Int} {ch : List Ch} (hk : ∀ j (hj : j < ch.length), ch[j].1 ≤ m) : cnt m ch = ch.length := by
  unfold cnt
  congr 1
  have : ∀ c ∈ ch, c.1 ≤ m := fun c hc => by
    obtain ⟨i, hi, rfl⟩ := List.getElem_of_mem hc
    exact hk i hi
  clear hk
  induction ch with
  | nil => rfl
  | cons c r ih =>
    rw [List.takeWhile_cons, if_pos (by simpa using this c (List.mem_cons_self)), ih (fun x hx => this x (List.mem_cons_of_mem _ hx))]

set_option maxRecDepth 10000 in
theorem at_ok (p : Nat) (a : Option Addr) (cap : Nat) (f : List Bool) (ch : List Ch) (m : Int) (hf : f.length = 4) (hv : Vols ch) (hc : ch.length ≤ cap) (hs : ch.length < 1000000) :
    RT G 11 [.pointer (some ⟨p, 0, none⟩), .int .i64 m] (grpR p a cap f ch) (Ints (listM (after f (ch.take (cnt m ch))))) := by
  refine RT.enter Tryd.func11 rfl (by decide) rfl Tryd.ntmps11 rfl (fun A hu hA => ?_)
  have hE1 : ∀ {L}, A ∈ L → Ent L (cellsAt p 0 (bools f ++ [.slice a ch.length cap])) := fun m => Ent.mem m hu fun k x => (hA k x).1
  have hE2 : ∀ {L}, A ∈ L → Ent L (readS a ch.length 3 (encL ch)) := fun m => Ent.mem m hu fun k x => (hA k x).2
  have hg : (bools f ++ [Value.slice a ch.length cap])[4]? = some (.slice a ch.length cap) := by
    obtain ⟨f0, f1, f2, f3, rfl⟩ := four hf; rfl
  repeat (first | refine GO ?_ | refine NW fun _ => ?_)
  refine WC.loop (σ := Nat) (fun k => k ≤ ch.length ∧ ∀ j (hj : j < k) (hj2 : j < ch.length), ch[j].1 ≤ m)
    (fun k => [(0, .val (.pointer (some ⟨p, 0, none⟩))), (1, .val (.int .i64 m)), (5, .val (.int .i64 k))])
    (fun k => [A]) (fun k => ch.length - k) 0 ⟨Nat.zero_le _, fun j hj => by omega⟩ ⟨rfl, rfl, rfl, trivial⟩ (Imp.refl _) ?_
  rintro k ⟨hk, hall⟩
  repeat (first | refine GO ?_ | refine NW fun _ => ?_)
  refine WL.step rfl (OP.load1 (v := .slice a ch.length cap) rfl rfl rfl rfl (Ent.one (i := 4) (hE1 MM) hg) rfl rfl ?_)
  by_cases hlt : k < ch.length
  · repeat (first | refine GD ?_ | refine NW fun _ => ?_)
    refine WL.guardT rfl rfl rfl rfl (OP.load1 (v := .slice a ch.length cap) rfl rfl rfl rfl (Ent.one (i := 4) (hE1 MM) hg) rfl rfl ?_)
    repeat (first | refine GD ?_ | refine NW fun _ => ?_)
    refine WL.fact (Ent.some (hE2 MM) (by omega)) ?_
    rintro ⟨b, off, rfl⟩
    repeat (first | refine GD ?_ | refine NW fun _ => ?_)
    have hx := cnt_lt hlt (fun j hj => hall j hj (by omega))
    refine WL.guardT rfl rfl rfl rfl (OP.load1 (v := .int .i64 ch[k].1) rfl rfl rfl rfl (Ent.elem (i := k * 3 + 0) (hE2 MM) rfl (encL_get _ _ _ hlt (by decide))) rfl rfl ?_)
    by_cases hm : ch[k].1 ≤ m
    · repeat (first | refine GD ?_ | refine NW fun _ => ?_)
      exact ⟨k + 1, ⟨by omega, fun j hj hj2 => by
        by_cases e : j = k
        · subst e; exact hm
        · exact hall j (by omega) hj2⟩, by omega, ⟨rfl, rfl, rfl, trivial⟩, Imp.refl _⟩
    · have hck := hx.2 hm
      repeat (first | refine GD ?_ | refine NW fun _ => ?_)
      refine WL.step rfl (OP.callRO rfl rfl (behind_ro p _ cap f ch k hf hv (by omega) hc hs) (Ent.mem MM hu hA) rfl rfl ?_)
      refine WL.step rfl (OP.callRT rfl rfl (list_ok _ (by rw [after_length, hf])) (fun _ _ => trivial) rfl rfl ?_)
      rintro v E hE
      repeat (first | refine GD ?_ | refine NW fun _ => ?_)
      exact ret1 rfl ⟨E, hck ▸ hE, Imp.refl _⟩
  · have hkn : k = ch.length := by omega
    subst hkn
    have hck : cnt m ch = ch.length := cnt_all (fun j hj => hall j hj hj)
    repeat (first | refine GD ?_ | refine NW fun _ => ?_)
    refine WL.step rfl (OP.callRO rfl rfl (behind_ro p _ cap f ch ch.length hf hv (by omega) hc hs) (Ent.mem MM hu hA) rfl rfl ?_)
    refine WL.step rfl (OP.callRT rfl rfl (list_ok _ (by rw [after_length, hf])) (fun _ _ => trivial) rfl rfl ?_)
    rintro v E hE
    repeat (first | refine GD ?_ | refine NW fun _ => ?_)
    exact ret1 rfl ⟨E, hck ▸ hE, Imp.refl _⟩
end Go.Proofs.YtkoakmaihcheaabDoor
/- Contracts of functions of the given program, and plain laws on what they compute: parts of the proofs of laws. -/

namespace Go.Proofs.YtkoakmaihcheaabDoor
open Go Go.GL

/-- the marker of the last change -/
def lastM (ch : List Ch) : Int := match ch.getLast? with
  | some c => c.1
  | none => 0
set_option maxRecDepth 10000 in
theorem last_ro (p : Nat) (a : Option Addr) (cap : Nat) (f : List Bool) (ch : List Ch) (hf : f.length = 4) (hs : ch.length < 1000000) :
    RO G 15 [.pointer (some ⟨p, 0, none⟩)] (grpR p a cap f ch) (.int .i64 (lastM ch)) := by
  refine RO.enter Tryd.func15 rfl (by decide) rfl Tryd.ntmps15 rfl (fun A hu hA => ?_) (up_grpR _ _ _ _ _)
  have hE1 : ∀ {L}, A ∈ L → Ent L (cellsAt p 0 (bools f ++ [.slice a ch.length cap])) := fun m => Ent.mem m hu fun k x => (hA k x).1
  have hE2 : ∀ {L}, A ∈ L → Ent L (readS a ch.length 3 (encL ch)) := fun m => Ent.mem m hu fun k x => (hA k x).2
  have hg : (bools f ++ [Value.slice a ch.length cap])[4]? = some (.slice a ch.length cap) := by
    obtain ⟨f0, f1, f2, f3, rfl⟩ := four hf; rfl
  repeat (first | refine GO ?_ | refine NW fun _ => ?_)
  refine WL.guardT rfl rfl rfl rfl (OP.load1 (v := .slice a ch.length cap) rfl rfl rfl rfl (Ent.one (i := 4) (hE1 MM) hg) rfl rfl ?_)
  by_cases h0 : ch.length = 0
  · repeat (first | refine GD ?_ | refine NW fun _ => ?_)
    have : ch = [] := List.length_eq_zero_iff.1 h0
    subst this
    exact ret1 rfl ⟨rfl, MM⟩
  · repeat (first | refine GD ?_ | refine NW fun _ => ?_)
    refine WC.fact (Ent.some (hE2 MM) (by omega)) ?_
    rintro ⟨b, off, rfl⟩
    refine RD 14 14 ([A]) ?_
    refine WW 0 ?_; refine WW 1 ?_; refine WW 2 ?_
    refine VL 3 (.slice (some ⟨b, off, none⟩) ch.length cap) rfl rfl rfl rfl (.inl ⟨rfl, Ent.one (i := 4) (hE1 MM) hg⟩) ?_
    refine WW 4 ?_; refine WW 5 ?_; refine WW 6 ?_
    refine VL 7 (.slice (some ⟨b, off, none⟩) ch.length cap) rfl rfl rfl rfl (.inl ⟨rfl, Ent.one (i := 4) (hE1 MM) hg⟩) ?_
    refine WW 8 ?_; refine WW 9 ?_; refine WW 10 ?_; refine WW 11 ?_
    refine VL 12 (.int .i64 (ch[ch.length - 1]'(by omega)).1) rfl rfl rfl rfl (.inl ⟨rfl, by rw [show ((ch.length : Int) - 1).toNat = ch.length - 1 from by omega]; exact Ent.elem (i := (ch.length - 1) * 3 + 0) (hE2 MM) rfl (encL_get _ _ _ (by omega) (by decide))⟩) ?_
    refine WW 13 ?_
    refine DN ?_
    repeat (first | refine GO ?_ | refine NW fun _ => ?_)
    refine ret1 rfl ⟨?_, MM⟩
    unfold lastM
    rw [List.getLast?_eq_getElem?, List.getElem?_eq_getElem (by omega)]
end Go.Proofs.YtkoakmaihcheaabDoor
/- Contracts of functions of the given program, and plain laws on what they compute: parts of the proofs of laws. -/

namespace Go.Proofs.YtkoakmaihcheaabDoor
open Go Go.GL

def grpL (p : Nat) (a : Option Addr) (n cap : Nat) (f : List Bool) (ch : List Ch) : List Assn := [blk p (bools f ++ [.slice a n cap]) 69, ownS a n cap 75 3 (encL ch)]
/-- what is wrong with a change -/
def putM (f : List Bool) (ch : List Ch) (c : Ch) : Option Int :=
  if ¬ (0 ≤ c.2.1 ∧ c.2.1 < 4) then some 5
  else if c.1 ≤ lastM ch then some 10
  else if 1152921504606846975 < c.1 then some 1
  else if (after f ch).getD c.2.1.toNat false ≠ c.2.2 then some 9
  else if 100 ≤ ch.length then some 6
  else none
def PutPost (p : Nat) (a : Option Addr) (cap : Nat) (f : List Bool) (ch : List Ch) (c : Ch) (v : Value) (M : List Assn) : Prop :=
  match putM f ch c with
  | some code => ∃ E, Fault member c.2.1 code v E ∧ M = E ++ grpL p a ch.length cap f ch
  | none => v = .nilIface ∧ ∃ a' cap', M = grpL p a' (ch.length + 1) cap' f (ch ++ [c])

set_option maxHeartbeats 4000000 in
set_option maxRecDepth 10000 in
theorem put_ok (p : Nat) (a : Option Addr) (cap : Nat) (f : List Bool) (ch : List Ch) (c : Ch) (hf : f.length = 4) (hv : Vols ch) (hs : ch.length ≤ 100) :
    Triple G 48 [.pointer (some ⟨p, 0, none⟩), .agg (encC c).toArray] (grpL p a ch.length cap f ch) (PutPost p a cap f ch c) := by
  refine Triple.enter Tryd.func48 rfl (by decide) rfl Tryd.ntmps48 rfl (fun F => ?_)
  obtain ⟨mark, vol, gone⟩ := c
  obtain ⟨f0, f1, f2, f3, rfl⟩ := four hf
  have hR : ∀ {L}, blk p (bools [f0, f1, f2, f3] ++ [.slice a ch.length cap]) 69 ∈ L → ownS a ch.length cap 75 3 (encL ch) ∈ L → Ent L (grpR p a cap [f0, f1, f2, f3] ch) := fun m1 m2 => Ent.and (Ent.whole m1) (Ent.own m2)
  refine WC.fact (Ent.ownLe (a := a) (n := ch.length) (cap := cap) (T := 75) (size := 3) (cs := encL ch) MM) (fun hc => ?_)
  repeat (first | refine GO ?_ | refine NW fun _ => ?_)
  refine WL.step rfl (OP.callRO rfl rfl (there_ro _) (fun _ _ => trivial) rfl rfl ?_)
  by_cases h1 : 0 ≤ vol ∧ vol < 4
  rotate_left
  · simp only [h1, decide_false]
    repeat (first | refine GO ?_ | refine NW fun _ => ?_)
    refine WL.step rfl (OP.call (pre := []) (F := _) rfl rfl (wrong_ok _ _ (by decide)) (Imp.refl _) rfl rfl ?_)
    rintro v' E ⟨b', rfl, rfl⟩
    repeat (first | refine GO ?_ | refine NW fun _ => ?_)
    refine ret1 rfl ⟨[_] ++ grpL p a ch.length cap _ ch, ?_, II⟩
    unfold PutPost putM
    rw [if_pos h1]
    exact ⟨_, ⟨_, rfl, rfl⟩, rfl⟩
  simp only [h1, and_self, decide_true]
  repeat (first | refine GO ?_ | refine NW fun _ => ?_)
  refine WC.regionD 6 6 _ rfl (by kernel_rfl) (Imp.refl _) ?_
  refine WW 0 ?_; refine WW 1 ?_; refine WW 2 ?_
  refine WH.only 3 rfl rfl (by kernel_rfl) rfl (OP.callRO rfl rfl (last_ro p a cap _ ch hf (by omega)) (hR MM MM) rfl rfl ⟨fun _ => Imp.refl _, ?_⟩)
  refine WW 4 ?_; refine WW 5 ?_
  refine DN ?_
  by_cases h2 : mark ≤ lastM ch
  · simp only [h2, decide_true]
    repeat (first | refine GO ?_ | refine NW fun _ => ?_)
    refine WL.step rfl (OP.call (pre := []) (F := _) rfl rfl (wrong_ok _ _ (by decide)) (Imp.refl _) rfl rfl ?_)
    rintro v' E ⟨b', rfl, rfl⟩
    repeat (first | refine GO ?_ | refine NW fun _ => ?_)
    refine ret1 rfl ⟨[_] ++ grpL p a ch.length cap _ ch, ?_, II⟩
    unfold PutPost putM
    rw [if_neg (not_not_intro h1), if_pos h2]
    exact ⟨_, ⟨_, rfl, rfl⟩, rfl⟩
  simp only [h2, decide_false]
  by_cases h3 : 1152921504606846975 < mark
  · repeat (first | refine GD ?_ | refine NW fun _ => ?_)
    repeat (first | refine GO ?_ | refine NW fun _ => ?_)
    refine WL.step rfl (OP.call (pre := []) (F := _) rfl rfl (wrong_ok _ _ (by decide)) (Imp.refl _) rfl rfl ?_)
    rintro v' E ⟨b', rfl, rfl⟩
    repeat (first | refine GO ?_ | refine NW fun _ => ?_)
    refine ret1 rfl ⟨[_] ++ grpL p a ch.length cap _ ch, ?_, II⟩
    unfold PutPost putM
    rw [if_neg (not_not_intro h1), if_neg h2, if_pos h3]
    exact ⟨_, ⟨_, rfl, rfl⟩, rfl⟩
  repeat (first | refine GD ?_ | refine NW fun _ => ?_)
  have hbeh := behind_ro p a cap [f0, f1, f2, f3] ch ch.length rfl hv (Nat.le_refl _) hc (by omega)
  rw [List.take_length] at hbeh
  obtain ⟨s0, s1, s2, s3, hsv⟩ := four (show (after [f0, f1, f2, f3] ch).length = 4 by rw [after_length]; rfl)
  rw [hsv] at hbeh
  refine WC.regionD 14 14 _ rfl (by kernel_rfl) (Imp.refl _) ?_
  refine WW 0 ?_; refine WW 1 ?_; refine WW 2 ?_; refine WW 3 ?_; refine WW 4 ?_; refine WW 5 ?_
  refine WW 7 ?_; refine WW 8 ?_
  refine WW 10 ?_; refine WW 11 ?_
  refine WH.only 6 rfl rfl (by kernel_rfl) rfl (OP.callRO rfl rfl hbeh (hR MM MM) rfl rfl ⟨fun _ => Imp.refl _, ?_⟩)
  obtain rfl | rfl | rfl | rfl : vol = 0 ∨ vol = 1 ∨ vol = 2 ∨ vol = 3 := by omega
  all_goals
    refine WW 9 ?_
    refine WW 12 ?_; refine WW 13 ?_
    refine DN ?_
    refine WC.cond rfl (fun hb => ?_) (fun hb => ?_)
    · repeat (first | refine GO ?_ | refine NW fun _ => ?_)
      refine WL.step rfl (OP.call (pre := []) (F := _) rfl rfl (wrong_ok _ _ (by decide)) (Imp.refl _) rfl rfl ?_)
      rintro v' E ⟨b', rfl, rfl⟩
      repeat (first | refine GO ?_ | refine NW fun _ => ?_)
      refine ret1 rfl ⟨[_] ++ grpL p a ch.length cap _ ch, ?_, II⟩
      unfold PutPost putM
      rw [if_neg (not_not_intro h1), if_neg h2, if_neg h3, if_pos]
      · exact ⟨_, ⟨_, rfl, rfl⟩, rfl⟩
      · rw [hsv]; simpa using hb
    · by_cases h5 : 100 ≤ ch.length
      · repeat (first | refine GD ?_ | refine NW fun _ => ?_)
        repeat (first | refine GO ?_ | refine NW fun _ => ?_)
        refine WL.step rfl (OP.call (pre := []) (F := _) rfl rfl (wrong_ok _ _ (by decide)) (Imp.refl _) rfl rfl ?_)
        rintro v' E ⟨b', rfl, rfl⟩
        repeat (first | refine GO ?_ | refine NW fun _ => ?_)
        refine ret1 rfl ⟨[_] ++ grpL p a ch.length cap _ ch, ?_, II⟩
        unfold PutPost putM
        rw [if_neg (not_not_intro h1), if_neg h2, if_neg h3, if_neg, if_pos h5]
        · exact ⟨_, ⟨_, rfl, rfl⟩, rfl⟩
        · rw [hsv]; simpa using hb
      · repeat (first | refine GD ?_ | refine NW fun _ => ?_)
        refine WC.regionD 8 11 [_, _] rfl (by kernel_rfl) (Imp.sub (L := _ :: _ :: _) (Picks.cons (Pick.here _ _) (Picks.cons (Pick.here _ _) (Picks.nil _)))) ?_
        refine WW 0 ?_; refine WW 1 ?_; refine WW 2 ?_; refine WW 3 ?_; refine WW 4 ?_; refine WW 5 ?_
        refine WH.only 6 rfl rfl (by kernel_rfl) rfl (OP.sliceLit rfl rfl rfl rfl rfl rfl rfl rfl (fun b' => ⟨fun _ => II, ?_⟩))
        refine WH.only 7 rfl rfl (by kernel_rfl) rfl (OP.append rfl rfl rfl rfl rfl rfl rfl rfl rfl P1 (Ent.own MM) rfl (by omega) (by omega) rfl rfl (fun a' cap' => ⟨fun _ => II, ?_⟩))
        refine WW 8 ?_; refine WW 9 ?_
        refine WH.only 10 rfl rfl (by kernel_rfl) rfl (OP.store rfl rfl rfl rfl rfl rfl rfl UP rfl ⟨(fun h => nomatch h), ?_⟩)
        refine DN ?_
        repeat (first | refine GO ?_ | refine NW fun _ => ?_)
        refine ret1 rfl ⟨[blk p (bools [f0, f1, f2, f3] ++ [.slice a' (ch.length + 1) cap']) 69, ownS a' (ch.length + 1) cap' 75 3 (encL ch ++ encC _)], ?_, II⟩
        unfold PutPost putM
        rw [if_neg (not_not_intro h1), if_neg h2, if_neg h3, if_neg, if_neg h5]
        · exact ⟨rfl, a', cap', by unfold grpL; rw [encL_snoc]⟩
        · rw [hsv]; simpa using hb
end Go.Proofs.YtkoakmaihcheaabDoor
/- Contracts of functions of the given program, and plain laws on what they compute: parts of the proofs of laws. -/

namespace Go.Proofs.YtkoakmaihcheaabDoor
open Go Go.GL

set_option maxRecDepth 10000 in
theorem add_ok (p : Nat) (a : Option Addr) (cap : Nat) (f : List Bool) (ch : List Ch) (v m : Int) (hf : f.length = 4) (hv : Vols ch) (hs : ch.length ≤ 100) :
    Triple G 25 [.pointer (some ⟨p, 0, none⟩), .int .i64 v, .int .i64 m] (grpL p a ch.length cap f ch) (PutPost p a cap f ch (m, v, false)) := by
  refine Triple.enter Tryd.func25 rfl (by decide) rfl Tryd.ntmps25 rfl (fun F => ?_)
  repeat (first | refine GO ?_ | refine NW fun _ => ?_)
  refine WL.step rfl (OP.call (pre := grpL p a ch.length cap f ch) (F := [F]) rfl rfl (put_ok p a cap f ch (m, v, false) hf hv hs) (Imp.refl _) rfl rfl ?_)
  rintro v' M hM
  repeat (first | refine GO ?_ | refine NW fun _ => ?_)
  exact ret1 rfl ⟨M, hM, Imp.refl _⟩
set_option maxRecDepth 10000 in
theorem remove_ok (p : Nat) (a : Option Addr) (cap : Nat) (f : List Bool) (ch : List Ch) (v m : Int) (hf : f.length = 4) (hv : Vols ch) (hs : ch.length ≤ 100) :
    Triple G 27 [.pointer (some ⟨p, 0, none⟩), .int .i64 v, .int .i64 m] (grpL p a ch.length cap f ch) (PutPost p a cap f ch (m, v, true)) := by
  refine Triple.enter Tryd.func27 rfl (by decide) rfl Tryd.ntmps27 rfl (fun F => ?_)
  repeat (first | refine GO ?_ | refine NW fun _ => ?_)
  refine WL.step rfl (OP.call (pre := grpL p a ch.length cap f ch) (F := [F]) rfl rfl (put_ok p a cap f ch (m, v, true) hf hv hs) (Imp.refl _) rfl rfl ?_)
  rintro v' M hM
  repeat (first | refine GO ?_ | refine NW fun _ => ?_)
  exact ret1 rfl ⟨M, hM, Imp.refl _⟩
set_option maxRecDepth 10000 in
theorem now_ok (p : Nat) (a : Option Addr) (cap : Nat) (f : List Bool) (ch : List Ch) (hf : f.length = 4) (hv : Vols ch) (hc : ch.length ≤ cap) (hs : ch.length < 1000000) :
    RT G 30 [.pointer (some ⟨p, 0, none⟩)] (grpR p a cap f ch) (Ints (listM (after f ch))) := by
  refine RT.enter Tryd.func30 rfl (by decide) rfl Tryd.ntmps30 rfl (fun A hu hA => ?_)
  have hE1 : ∀ {L}, A ∈ L → Ent L (cellsAt p 0 (bools f ++ [.slice a ch.length cap])) := fun m => Ent.mem m hu fun k x => (hA k x).1
  have hg : (bools f ++ [Value.slice a ch.length cap])[4]? = some (.slice a ch.length cap) := by
    obtain ⟨f0, f1, f2, f3, rfl⟩ := four hf; rfl
  repeat (first | refine GO ?_ | refine NW fun _ => ?_)
  refine WL.step rfl (OP.load1 (v := .slice a ch.length cap) rfl rfl rfl rfl (Ent.one (i := 4) (hE1 MM) hg) rfl rfl ?_)
  repeat (first | refine GO ?_ | refine NW fun _ => ?_)
  have hbeh := behind_ro p a cap f ch ch.length hf hv (Nat.le_refl _) hc hs
  rw [List.take_length] at hbeh
  refine WL.step rfl (OP.callRO rfl rfl hbeh (Ent.mem MM hu hA) rfl rfl ?_)
  refine WL.step rfl (OP.callRT rfl rfl (list_ok _ (by rw [after_length, hf])) (fun _ _ => trivial) rfl rfl ?_)
  rintro v E hE
  repeat (first | refine GO ?_ | refine NW fun _ => ?_)
  exact ret1 rfl ⟨E, hE, Imp.refl _⟩
set_option maxRecDepth 10000 in
theorem same_ro (a a' : Option Addr) (n c n' c' : Nat) (l l' : List Int) (hn : n = l.length) (hn' : n' = l'.length) (hs : n < 1000000) (hs' : n' < 1000000) :
    RO G 13 [.slice a n c, .slice a' n' c'] (fun h => readS a n 1 (l.map vI) h ∧ readS a' n' 1 (l'.map vI) h) (.bool (decide (l = l'))) := by
  refine RO.enter Tryd.func13 rfl (by decide) rfl Tryd.ntmps13 rfl (fun A hu hA => ?_) (up_and (up_readS _ _ _ _) (up_readS _ _ _ _))
  have hE1 : ∀ {L}, A ∈ L → Ent L (readS a n 1 (l.map vI)) := fun m => Ent.mem m hu fun k x => (hA k x).1
  have hE2 : ∀ {L}, A ∈ L → Ent L (readS a' n' 1 (l'.map vI)) := fun m => Ent.mem m hu fun k x => (hA k x).2
  by_cases hne : n = n'
  rotate_left
  · repeat (first | refine GD ?_ | refine NW fun _ => ?_)
    refine ret1 rfl ⟨?_, MM⟩
    have : l ≠ l' := fun e => hne (by rw [hn, hn', e])
    simp [this]
  subst hne
  repeat (first | refine GD ?_ | refine NW fun _ => ?_)
  refine WC.loop (σ := Nat) (fun k => k ≤ n ∧ ∀ j, j < k → l[j]? = l'[j]?)
    (fun k => [(0, .val (.slice a n c)), (1, .val (.slice a' n c')), (12, .val (.int .i64 n)), (13, .val (.int .i64 k))])
    (fun k => [A]) (fun k => n - k) 0 ⟨Nat.zero_le _, fun j hj => by omega⟩ ⟨rfl, rfl, rfl, rfl, trivial⟩ (Imp.refl _) ?_
  rintro k ⟨hk, hall⟩
  by_cases hlt : k < n
  rotate_left
  · repeat (first | refine GD ?_ | refine NW fun _ => ?_)
    refine ret1 rfl ⟨?_, MM⟩
    have : l = l' := List.ext_getElem? fun i => by
      by_cases hi : i < k
      · exact hall i hi
      · rw [List.getElem?_eq_none (by omega), List.getElem?_eq_none (by omega)]
    simp [this]
  have hl1 : k < l.length := by omega
  have hl2 : k < l'.length := by omega
  repeat (first | refine GD ?_ | refine NW fun _ => ?_)
  refine WC.fact (Ent.some (hE1 MM) (by omega)) ?_
  rintro ⟨b, off, rfl⟩
  refine WC.fact (Ent.some (hE2 MM) (by omega)) ?_
  rintro ⟨b', off', rfl⟩
  refine RD 9 9 (_) ?_
  refine WW 0 ?_; refine WW 1 ?_; refine WW 2 ?_
  refine VL 3 (.int .i64 l[k]) rfl rfl rfl rfl (.inl ⟨rfl, Ent.elem (i := k * 1) (hE1 MM) rfl (by simp [vI, hl1])⟩) ?_
  refine WW 4 ?_; refine WW 5 ?_; refine WW 6 ?_
  refine VL 7 (.int .i64 l'[k]) rfl rfl rfl rfl (.inl ⟨rfl, Ent.elem (i := k * 1) (hE2 MM) rfl (by simp [vI, hl2])⟩) ?_
  refine WW 8 ?_
  refine DN ?_
  by_cases he : l[k] = l'[k]
  · simp only [he, decide_true]
    repeat (first | refine GO ?_ | refine NW fun _ => ?_)
    exact ⟨k + 1, ⟨by omega, fun j hj => by
      by_cases e : j = k
      · subst e; rw [List.getElem?_eq_getElem hl1, List.getElem?_eq_getElem hl2, he]
      · exact hall j (by omega)⟩, by omega, ⟨rfl, rfl, rfl, rfl, trivial⟩, Imp.refl _⟩
  · simp only [he, decide_false]
    repeat (first | refine GO ?_ | refine NW fun _ => ?_)
    refine ret1 rfl ⟨?_, MM⟩
    have : l ≠ l' := fun e => he (by subst e; rfl)
    simp [this]
end Go.Proofs.YtkoakmaihcheaabDoor
/- Contracts of functions of the given program, and plain laws on what they compute: parts of the proofs of laws. -/

namespace Go.Proofs.YtkoakmaihcheaabDoor
open Go Go.GL

/-- the changes behind a put -/
def putCh (f : List Bool) (ch : List Ch) (c : Ch) : List Ch := match putM f ch c with
  | none => ch ++ [c]
  | some _ => ch
theorem Imp.dropL (E L : List Assn) : Imp (E ++ L) L := by
  induction E with
  | nil => exact Imp.refl _
  | cons x r ih => exact Imp.dropTail ih
theorem put_any {p : Nat} {a : Option Addr} {cap : Nat} {f : List Bool} {ch : List Ch} {c : Ch} {v : Value} {M : List Assn} (h : PutPost p a cap f ch c v M) :
    ∃ a' cap', Imp M (grpL p a' (putCh f ch c).length cap' f (putCh f ch c)) := by
  unfold PutPost at h
  unfold putCh
  split at h
  · rename_i code e
    rw [e]
    obtain ⟨E, _, rfl⟩ := h
    exact ⟨a, cap, Imp.dropL _ _⟩
  · rename_i e
    rw [e]
    obtain ⟨_, a', cap', rfl⟩ := h
    exact ⟨a', cap', by simp only [List.length_append, List.length_singleton]; exact Imp.refl _⟩
theorem putCh_inv {f : List Bool} {ch : List Ch} {c : Ch} (hv : Vols ch) (hs : ch.length ≤ 100) : Vols (putCh f ch c) ∧ (putCh f ch c).length ≤ 100 := by
  unfold putCh
  split
  · rename_i e
    unfold putM at e
    split at e
    · cases e
    · rename_i h1
      split at e
      · cases e
      split at e
      · cases e
      split at e
      · cases e
      split at e
      · cases e
      · refine ⟨fun x hx => ?_, by simp; omega⟩
        rcases List.mem_append.1 hx with hx | hx
        · exact hv x hx
        · simp only [List.mem_singleton] at hx; subst hx; exact Decidable.not_not.1 h1
  · exact ⟨hv, hs⟩

set_option maxRecDepth 10000 in
theorem has_ro (a : Option Addr) (n c : Nat) (l : List Int) (v : Int) (hn : n = l.length) (hs : n < 1000000) :
    RO G 12 [.slice a n c, .int .i64 v] (readS a n 1 (l.map vI)) (.bool (decide (v ∈ l))) := by
  refine RO.enter Tryd.func12 rfl (by decide) rfl Tryd.ntmps12 rfl (fun A hu hA => ?_) (up_readS _ _ _ _)
  have hE1 : ∀ {L}, A ∈ L → Ent L (readS a n 1 (l.map vI)) := fun m => Ent.mem m hu hA
  repeat (first | refine GO ?_ | refine NW fun _ => ?_)
  refine WC.loop (σ := Nat) (fun k => k ≤ n ∧ v ∉ l.take k)
    (fun k => [(0, .val (.slice a n c)), (1, .val (.int .i64 v)), (7, .val (.int .i64 n)), (8, .val (.int .i64 k))])
    (fun k => [A]) (fun k => n - k) 0 ⟨Nat.zero_le _, by simp⟩ ⟨rfl, rfl, rfl, rfl, trivial⟩ (Imp.refl _) ?_
  rintro k ⟨hk, hall⟩
  by_cases hlt : k < n
  rotate_left
  · repeat (first | refine GD ?_ | refine NW fun _ => ?_)
    refine ret1 rfl ⟨?_, MM⟩
    rw [List.take_of_length_le (by omega)] at hall
    simp [hall]
  have hl1 : k < l.length := by omega
  have htk := List.take_succ_eq_append_getElem hl1
  repeat (first | refine GD ?_ | refine NW fun _ => ?_)
  refine WL.fact (Ent.some (hE1 MM) (by omega)) ?_
  rintro ⟨b, off, rfl⟩
  repeat (first | refine GD ?_ | refine NW fun _ => ?_)
  refine WL.step rfl (OP.load1 (v := .int .i64 l[k]) rfl rfl rfl rfl (Ent.elem (hE1 MM) rfl (by simp [vI, hl1])) rfl rfl ?_)
  by_cases he : l[k] = v
  · repeat (first | refine GD ?_ | refine NW fun _ => ?_)
    refine ret1 rfl ⟨?_, MM⟩
    have : v ∈ l := he ▸ List.getElem_mem _
    simp [this]
  · repeat (first | refine GD ?_ | refine NW fun _ => ?_)
    exact ⟨k + 1, ⟨by omega, by
      rw [htk, List.mem_append, List.mem_singleton]
      rintro (h | h)
      · exact hall h
      · exact he h.symm⟩, by omega, ⟨rfl, rfl, rfl, rfl, trivial⟩, Imp.refl _⟩

abbrev Op3 := Int × Int × Int
def encO (o : Op3) : List Value := [.int .i64 o.1, .int .i64 o.2.1, .int .i64 o.2.2]
def encOs (l : List Op3) : List Value := l.flatMap encO
theorem flat_at {α : Type} (enc : α → List Value) (m : Nat) (he : ∀ x, (enc x).length = m) (l : List α) (k : Nat) (h : k < l.length) : enc l[k] = ((l.flatMap enc).drop (k * m)).take m := by
  induction l generalizing k with
  | nil => simp at h
  | cons c r ih =>
    cases k with
    | zero => simp [← he c]
    | succ k =>
      have e : (k + 1) * m = m + k * m := by rw [Nat.succ_mul, Nat.add_comm]
      have := ih k (by simpa using h)
      simp only [List.flatMap_cons, List.getElem_cons_succ]
      rw [this, e, ← List.drop_drop, List.drop_left' (he c)]
theorem flat_get {α : Type} (enc : α → List Value) (m : Nat) (he : ∀ x, (enc x).length = m) (l : List α) (k j : Nat) (h : k < l.length) (hj : j < m) : (l.flatMap enc)[k * m + j]? = (enc l[k])[j]? := by
  rw [flat_at enc m he l k h, List.getElem?_take, if_pos hj, List.getElem?_drop]
def stepO (f : List Bool) (ch : List Ch) (o : Op3) : List Ch :=
  if o.1 = 1 then putCh f ch (o.2.2, o.2.1, false) else if o.1 = 2 then putCh f ch (o.2.2, o.2.1, true) else ch
def playM (f : List Bool) (ch : List Ch) (l : List Op3) : List Ch := l.foldl (stepO f) ch
theorem stepO_inv {f : List Bool} {ch : List Ch} {o : Op3} (hv : Vols ch) (hs : ch.length ≤ 100) : Vols (stepO f ch o) ∧ (stepO f ch o).length ≤ 100 := by
  unfold stepO
  split
  · exact putCh_inv hv hs
  · split
    · exact putCh_inv hv hs
    · exact ⟨hv, hs⟩
theorem playM_snoc (f : List Bool) (ch : List Ch) (l : List Op3) (o : Op3) : playM f ch (l ++ [o]) = stepO f (playM f ch l) o := by simp [playM]
theorem playM_inv {f : List Bool} {ch : List Ch} (l : List Op3) (hv : Vols ch) (hs : ch.length ≤ 100) : Vols (playM f ch l) ∧ (playM f ch l).length ≤ 100 := by
  induction l generalizing ch with
  | nil => exact ⟨hv, hs⟩
  | cons o r ih => exact ih (stepO_inv hv hs).1 (stepO_inv hv hs).2

set_option maxHeartbeats 1000000 in
set_option maxRecDepth 10000 in
theorem play_ok (p : Nat) (a : Option Addr) (cap : Nat) (f : List Bool) (ch : List Ch) (b : Option Addr) (m c : Nat) (l : List Op3) (A : Assn) (hu : Up A) (hA : ∀ h, A h → readS b m 3 (encOs l) h) (hf : f.length = 4) (hv : Vols ch) (hs : ch.length ≤ 100) (hm : m = l.length) (hml : m < 1000000) :
    Triple G 34 [.pointer (some ⟨p, 0, none⟩), .slice b m c] (grpL p a ch.length cap f ch ++ [A]) (fun v M => v = .tuple #[] ∧ ∃ a' cap', M = grpL p a' (playM f ch l).length cap' f (playM f ch l) ++ [A]) := by
  refine Triple.enter Tryd.func34 rfl (by decide) rfl Tryd.ntmps34 rfl (fun F => ?_)
  have hE : ∀ {L}, A ∈ L → Ent L (readS b m 3 (encOs l)) := fun m => Ent.mem m hu hA
  repeat (first | refine GO ?_ | refine NW fun _ => ?_)
  refine WC.loop (σ := Nat × Option Addr × Nat × List Ch) (fun s => s.1 ≤ m ∧ s.2.2.2 = playM f ch (l.take s.1))
    (fun s => [(0, .val (.pointer (some ⟨p, 0, none⟩))), (1, .val (.slice b m c)), (6, .val (.int .i64 m)), (7, .val (.int .i64 s.1))])
    (fun s => grpL p s.2.1 s.2.2.2.length s.2.2.1 f s.2.2.2 ++ [A, F]) (fun s => m - s.1) (0, a, cap, ch) ⟨Nat.zero_le _, rfl⟩ ⟨rfl, rfl, rfl, rfl, trivial⟩ (Imp.refl _) ?_
  rintro ⟨k, a1, cap1, ch1⟩ ⟨hk, hch⟩
  dsimp only at hk hch ⊢
  obtain ⟨hv1, hs1⟩ := playM_inv (f := f) (l.take k) hv hs
  rw [← hch] at hv1 hs1
  by_cases hlt : k < m
  rotate_left
  · repeat (first | refine GD ?_ | refine NW fun _ => ?_)
    rw [List.take_of_length_le (by omega)] at hch
    subst hch
    refine blockK.hit rfl ?_
    refine ret0n ?_
    exact ⟨_, ⟨rfl, a1, cap1, rfl⟩, Imp.refl _⟩
  have hl1 : k < l.length := by omega
  have hsn := playM_snoc f ch (l.take k) l[k]
  rw [← List.take_succ_eq_append_getElem hl1, ← hch] at hsn
  have hge : ∀ j, j < 3 → (encOs l)[k * 3 + j]? = (encO l[k])[j]? := fun j hj => flat_get encO 3 (fun _ => rfl) l k j hl1 hj
  generalize l[k] = o at *
  obtain ⟨ok, ov, om⟩ := o
  repeat (first | refine GD ?_ | refine NW fun _ => ?_)
  refine WL.fact (Ent.some (hE MM) (by omega)) ?_
  rintro ⟨bb, off, rfl⟩
  repeat (first | refine GD ?_ | refine NW fun _ => ?_)
  refine WL.step rfl (OP.load1 (v := .int .i64 ok) rfl rfl rfl rfl (Ent.elem (i := k * 3 + 0) (hE MM) rfl (hge 0 (by decide))) rfl rfl ?_)
  by_cases h1 : ok = 1
  · have hst : stepO f ch1 (ok, ov, om) = putCh f ch1 (om, ov, false) := by simp [stepO, h1]
    rw [hst] at hsn
    repeat (first | refine GD ?_ | refine NW fun _ => ?_)
    refine RD 11 12 ([A]) ?_
    refine WW 0 ?_; refine WW 1 ?_; refine WW 2 ?_; refine WW 3 ?_; refine WW 4 ?_
    refine VL 5 (.int .i64 ov) rfl rfl rfl rfl (.inl ⟨rfl, Ent.elem (i := k * 3 + 1) (hE MM) rfl (hge 1 (by decide))⟩) ?_
    refine WW 6 ?_; refine WW 7 ?_; refine WW 8 ?_; refine WW 9 ?_
    refine VL 10 (.int .i64 om) rfl rfl rfl rfl (.inl ⟨rfl, Ent.elem (i := k * 3 + 2) (hE MM) rfl (hge 2 (by decide))⟩) ?_
    refine WH.only 11 rfl rfl (by kernel_rfl) rfl (OP.call (pre := grpL p a1 ch1.length cap1 f ch1) (F := [A, F]) rfl rfl (add_ok p a1 cap1 f ch1 ov om hf hv1 hs1) (Imp.refl _) rfl rfl (fun v' M hM => ⟨(fun h => nomatch h), ?_⟩))
    refine DN ?_
    obtain ⟨a2, cap2, hi⟩ := put_any hM
    repeat (first | refine GO ?_ | refine NW fun _ => ?_)
    exact ⟨(k + 1, a2, cap2, putCh f ch1 (om, ov, false)), ⟨by dsimp only; omega, hsn.symm⟩, by dsimp only; omega, ⟨rfl, rfl, rfl, rfl, trivial⟩, Imp.app hi [A, F]⟩
  · by_cases h2 : ok = 2
    · have hst : stepO f ch1 (ok, ov, om) = putCh f ch1 (om, ov, true) := by simp [stepO, h2]
      rw [hst] at hsn
      repeat (first | refine GD ?_ | refine NW fun _ => ?_)
      refine RD 11 12 ([A]) ?_
      refine WW 0 ?_; refine WW 1 ?_; refine WW 2 ?_; refine WW 3 ?_; refine WW 4 ?_
      refine VL 5 (.int .i64 ov) rfl rfl rfl rfl (.inl ⟨rfl, Ent.elem (i := k * 3 + 1) (hE MM) rfl (hge 1 (by decide))⟩) ?_
      refine WW 6 ?_; refine WW 7 ?_; refine WW 8 ?_; refine WW 9 ?_
      refine VL 10 (.int .i64 om) rfl rfl rfl rfl (.inl ⟨rfl, Ent.elem (i := k * 3 + 2) (hE MM) rfl (hge 2 (by decide))⟩) ?_
      refine WH.only 11 rfl rfl (by kernel_rfl) rfl (OP.call (pre := grpL p a1 ch1.length cap1 f ch1) (F := [A, F]) rfl rfl (remove_ok p a1 cap1 f ch1 ov om hf hv1 hs1) (Imp.refl _) rfl rfl (fun v' M hM => ⟨(fun h => nomatch h), ?_⟩))
      refine DN ?_
      obtain ⟨a2, cap2, hi⟩ := put_any hM
      repeat (first | refine GO ?_ | refine NW fun _ => ?_)
      exact ⟨(k + 1, a2, cap2, putCh f ch1 (om, ov, true)), ⟨by dsimp only; omega, hsn.symm⟩, by dsimp only; omega, ⟨rfl, rfl, rfl, rfl, trivial⟩, Imp.app hi [A, F]⟩
    · have hst : stepO f ch1 (ok, ov, om) = ch1 := by simp [stepO, h1, h2]
      rw [hst] at hsn
      repeat (first | refine GD ?_ | refine NW fun _ => ?_)
      exact ⟨(k + 1, a1, cap1, ch1), ⟨by dsimp only; omega, hsn.symm⟩, by dsimp only; omega, ⟨rfl, rfl, rfl, rfl, trivial⟩, Imp.refl _⟩
end Go.Proofs.YtkoakmaihcheaabDoor
/- Contracts of functions of the given program, and plain laws on what they compute: parts of the proofs of laws. -/

namespace Go.Proofs.YtkoakmaihcheaabDoor
open Go Go.GL

set_option maxHeartbeats 1000000 in
set_option maxRecDepth 10000 in
theorem awake_ro : RO G 8 [] (fun _ => True) (.bool true) := by
  refine RO.enter Tryd.func8 rfl (by decide) rfl Tryd.ntmps8 rfl (fun A hu hA => ?_) (fun _ _ _ h => h)
  repeat (first | refine GO ?_ | refine NW fun _ => ?_)
  refine WL.step rfl (OP.callRT rfl rfl (new_ok _ 2 _ [0, 1] (by omega)) (Ent.own MM) rfl rfl ?_)
  rintro v E ⟨p, rfl, rfl⟩
  repeat (first | refine GD ?_ | refine NW fun _ => ?_)
  refine WL.imp (M := grpL p none 0 0 [true, true, false, false] [] ++ [A]) (Imp.trans (M := [blk p (bools [true, true, false, false] ++ [.slice none 0 0]) 69, A]) II (Imp.cons (Imp.nilS 75 3))) ?_
  refine WL.guardT rfl rfl rfl rfl (OP.call (F := [A]) rfl rfl (add_ok p none 0 [true, true, false, false] [] 2 5 rfl (fun _ h => by cases h) (by decide)) (Imp.refl _) rfl rfl ?_)
  rintro v M ⟨rfl, a1, cap1, rfl⟩
  have hv : Vols ([] ++ [((5 : Int), (2 : Int), false)]) := by intro c hc; simp at hc; subst hc; decide
  refine WL.fact (Ent.ownLe (a := a1) (n := 1) (cap := cap1) (T := 75) (size := 3) (cs := encL [(5, 2, false)]) MM) (fun hc => ?_)
  have hR : ∀ {L}, blk p (bools [true, true, false, false] ++ [.slice a1 1 cap1]) 69 ∈ L → ownS a1 1 cap1 75 3 (encL [(5, 2, false)]) ∈ L → Ent L (grpR p a1 cap1 [true, true, false, false] [(5, 2, false)]) := fun m1 m2 => Ent.and (Ent.whole m1) (Ent.own m2)
  repeat (first | refine GD ?_ | refine NW fun _ => ?_)
  refine WL.guardT rfl rfl rfl rfl (OP.callRO rfl rfl (last_ro p a1 cap1 [true, true, false, false] [(5, 2, false)] rfl (by decide)) (hR MM MM) rfl rfl ?_)
  repeat (first | refine GD ?_ | refine NW fun _ => ?_)
  refine WL.guardT rfl rfl rfl rfl (OP.callRT rfl rfl (at_ok p a1 cap1 [true, true, false, false] [(5, 2, false)] 4 rfl hv hc (by decide)) (hR MM MM) rfl rfl ?_)
  rintro v E ⟨a2, c2, rfl, rfl⟩
  repeat (first | refine GD ?_ | refine NW fun _ => ?_)
  refine WL.guardT rfl rfl rfl rfl (OP.callRT rfl rfl (now_ok p a1 cap1 [true, true, false, false] [(5, 2, false)] rfl hv hc (by decide)) (hR MM MM) rfl rfl ?_)
  rintro v E ⟨a3, c3, rfl, rfl⟩
  repeat (first | refine GD ?_ | refine NW fun _ => ?_)
  exact ret1 rfl ⟨rfl, MM⟩
end Go.Proofs.YtkoakmaihcheaabDoor
/- Contracts of functions of the given program, and plain laws on what they compute: parts of the proofs of laws. -/
namespace Go.Proofs.YtkoakmaihcheaabDoor
open Go Go.GL

/-- no change is later than the last one -/
def Srt (ch : List Ch) : Prop := ∀ c ∈ ch, c.1 ≤ lastM ch
def atM (m : Int) (f : List Bool) (ch : List Ch) : List Bool := after f (ch.take (cnt m ch))
theorem atM_length (m : Int) (f : List Bool) (ch : List Ch) : (atM m f ch).length = f.length := after_length _ _
theorem lastM_snoc (ch : List Ch) (c : Ch) : lastM (ch ++ [c]) = c.1 := by simp [lastM]
theorem put_none {f : List Bool} {ch : List Ch} {c : Ch} (h : putM f ch c = none) : (0 ≤ c.2.1 ∧ c.2.1 < 4) ∧ lastM ch < c.1 ∧ c.1 ≤ 1152921504606846975 ∧ (after f ch).getD c.2.1.toNat false = c.2.2 ∧ ch.length < 100 := by
  unfold putM at h
  split at h
  · cases h
  split at h
  · cases h
  split at h
  · cases h
  split at h
  · cases h
  split at h
  · cases h
  · rename_i h1 h2 h3 h4 h5
    exact ⟨Decidable.not_not.1 h1, by omega, by omega, Decidable.not_not.1 h4, by omega⟩
theorem putCh_cases (f : List Bool) (ch : List Ch) (c : Ch) : (putM f ch c = none ∧ putCh f ch c = ch ++ [c]) ∨ ((∃ x, putM f ch c = some x) ∧ putCh f ch c = ch) := by
  unfold putCh
  cases h : putM f ch c with
  | none => exact .inl ⟨rfl, rfl⟩
  | some x => exact .inr ⟨⟨x, rfl⟩, rfl⟩
theorem srt_put {f : List Bool} {ch : List Ch} {c : Ch} (h : Srt ch) : Srt (putCh f ch c) := by
  rcases putCh_cases f ch c with ⟨e, e2⟩ | ⟨_, e2⟩
  · rw [e2]
    intro x hx
    rw [lastM_snoc]
    have := (put_none e).2.1
    rcases List.mem_append.1 hx with hx | hx
    · have := h x hx; omega
    · simp only [List.mem_singleton] at hx; subst hx; omega
  · rw [e2]; exact h
theorem srt_stepO {f : List Bool} {ch : List Ch} {o : Op3} (h : Srt ch) : Srt (stepO f ch o) := by
  unfold stepO
  split
  · exact srt_put h
  · split
    · exact srt_put h
    · exact h
theorem srt_play {f : List Bool} {ch : List Ch} (l : List Op3) (h : Srt ch) : Srt (playM f ch l) := by
  induction l generalizing ch with
  | nil => exact h
  | cons o r ih => exact ih (srt_stepO h)
theorem cnt_full {m : Int} {ch : List Ch} (hs : Srt ch) (h : lastM ch ≤ m) : cnt m ch = ch.length :=
  cnt_all fun j hj => by have := hs _ (List.getElem_mem hj); omega
theorem atM_high {m : Int} {f : List Bool} {ch : List Ch} (hs : Srt ch) (h : lastM ch ≤ m) : atM m f ch = after f ch := by
  unfold atM
  rw [cnt_full hs h, List.take_length]
theorem tw_snoc {α : Type} (p : α → Bool) (l : List α) (x : α) (h : p x = false ∨ ∃ y ∈ l, p y = false) : (l ++ [x]).takeWhile p = l.takeWhile p := by
  induction l with
  | nil =>
    rcases h with h | ⟨y, hy, _⟩
    · simp [h]
    · cases hy
  | cons a r ih =>
    rw [List.cons_append, List.takeWhile_cons, List.takeWhile_cons]
    by_cases ha : p a = true
    · rw [if_pos ha, if_pos ha, ih]
      rcases h with h | ⟨y, hy, h⟩
      · exact .inl h
      · rcases List.mem_cons.1 hy with rfl | hy
        · rw [ha] at h; cases h
        · exact .inr ⟨y, hy, h⟩
    · rw [if_neg ha, if_neg ha]
theorem last_mem {ch : List Ch} (h : ch ≠ []) : ∃ y ∈ ch, y.1 = lastM ch := by
  refine ⟨ch.getLast h, List.getLast_mem h, ?_⟩
  unfold lastM
  rw [List.getLast?_eq_some_getLast h]
theorem atM_low {m : Int} {f : List Bool} {ch : List Ch} {c : Ch} (h : m < c.1 ∨ (m < lastM ch ∧ ch ≠ [])) : atM m f (ch ++ [c]) = atM m f ch := by
  unfold atM cnt
  rw [tw_snoc, List.take_append_of_le_length (List.takeWhile_sublist _).length_le]
  rcases h with h | ⟨h, hn⟩
  · exact .inl (by simpa using h)
  · obtain ⟨y, hy, e⟩ := last_mem hn
    exact .inr ⟨y, hy, by simp; omega⟩
theorem newM_length : ∀ {l : List Int} {f f' : List Bool}, newM l f = .ok f' → f'.length = f.length
  | [], f, f', h => by cases h; rfl
  | v :: r, f, f', h => by
    rw [newM_cons] at h
    split at h
    · split at h
      · cases h
      · rw [newM_length h]; simp
    · cases h
theorem listM_step (a b c d x : Bool) (v : Int) (hv : 0 ≤ v ∧ v < 4) : (listM ([a, b, c, d].set v.toNat x)).length ≤ (listM [a, b, c, d]).length + 1 ∧ (listM [a, b, c, d]).length ≤ (listM ([a, b, c, d].set v.toNat x)).length + 1 := by
  obtain rfl | rfl | rfl | rfl : v = 0 ∨ v = 1 ∨ v = 2 ∨ v = 3 := by omega
  all_goals revert a b c d x; decide
theorem listM_len (f : List Bool) : (listM f).length ≤ f.length := by
  unfold listM
  rw [List.length_map]
  exact Nat.le_trans (List.length_filter_le _ _) (by simp)
/-- by one change at most -/
def OneMore (_f : List Bool) (ch ch' : List Ch) (m : Int) : Prop := ch' = ch ∨ ∃ c : Ch, c.1 = m ∧ (0 ≤ c.2.1 ∧ c.2.1 < 4) ∧ lastM ch < m ∧ ch' = ch ++ [c]
theorem one_put (f : List Bool) (ch : List Ch) (c : Ch) : OneMore f ch (putCh f ch c) c.1 := by
  rcases putCh_cases f ch c with ⟨e, e2⟩ | ⟨_, e2⟩
  · exact .inr ⟨c, rfl, (put_none e).1, (put_none e).2.1, e2⟩
  · exact .inl e2
theorem one_two (f : List Bool) (ch : List Ch) (v m : Int) : OneMore f ch (putCh f (putCh f ch (m, v, false)) (m, v, true)) m := by
  rcases putCh_cases f ch (m, v, false) with ⟨e, e2⟩ | ⟨_, e2⟩
  · rcases putCh_cases f (putCh f ch (m, v, false)) (m, v, true) with ⟨x, x2⟩ | ⟨_, x2⟩
    · have := (put_none x).2.1
      rw [e2, lastM_snoc] at this
      simp only [] at this
      omega
    · rw [x2]; exact one_put _ _ _
  · rw [e2]; exact one_put _ _ _
theorem stays_low {f : List Bool} {ch ch' : List Ch} {m mark : Int} (h : OneMore f ch ch' m) (hl : mark < m ∨ mark < lastM ch) : atM mark f ch' = atM mark f ch := by
  rcases h with rfl | ⟨c, rfl, _, hc, rfl⟩
  · rfl
  · by_cases h1 : mark < c.1
    · exact atM_low (.inl h1)
    · omega
theorem stays_high {f : List Bool} {ch ch' : List Ch} {m mark : Int} (h : OneMore f ch ch' m) (hf : f.length = 4) (hs : Srt ch) (hl : ¬ mark < m) (hl2 : ¬ mark < lastM ch) :
    (listM (atM mark f ch')).length ≤ (listM (atM mark f ch)).length + 1 ∧ (listM (atM mark f ch)).length ≤ (listM (atM mark f ch')).length + 1 := by
  rcases h with rfl | ⟨c, rfl, hv, hc, rfl⟩
  · omega
  · have hs' : Srt (ch ++ [c]) := by
      intro x hx
      rw [lastM_snoc]
      rcases List.mem_append.1 hx with hx | hx
      · have := hs x hx; omega
      · simp only [List.mem_singleton] at hx; subst hx; omega
    rw [atM_high hs (by omega), atM_high hs' (by rw [lastM_snoc]; omega), after_snoc]
    obtain ⟨a, b, c', d, e⟩ := four (show (after f ch).length = 4 by rw [after_length, hf])
    rw [e]
    exact listM_step _ _ _ _ _ _ hv
theorem one_vols {f : List Bool} {ch ch' : List Ch} {m : Int} (h : OneMore f ch ch' m) (hv : Vols ch) (hs : ch.length ≤ 100) : Vols ch' ∧ ch'.length ≤ 101 := by
  rcases h with rfl | ⟨c, rfl, hv', hc, rfl⟩
  · exact ⟨hv, by omega⟩
  · refine ⟨fun x hx => ?_, by simp; omega⟩
    rcases List.mem_append.1 hx with hx | hx
    · exact hv x hx
    · simp only [List.mem_singleton] at hx; subst hx; exact hv'
end Go.Proofs.YtkoakmaihcheaabDoor
/- Contracts of functions of the given program, and plain laws on what they compute: parts of the proofs of laws. -/

namespace Go.Proofs.YtkoakmaihcheaabDoor
open Go Go.GL

def addF (z : Int) (l : List Int) : Int := l.foldl (fun z v => z + 2 ^ v.toNat) z
/-- the first volumes as a number -/
def bitsM (f : List Bool) : Int := addF 0 (listM f)
def chB (c : Ch) : List UInt8 := numB (clampN c.1) ++ numB (clampN (2 * c.2.1 + (if c.2.2 = true then 1 else 0)))
/-- a group as bytes -/
def bytesM (f : List Bool) (ch : List Ch) : List UInt8 := numB (clampN (bitsM f)) ++ numB (clampN ch.length) ++ ch.flatMap chB
theorem chB_len (c : Ch) : (chB c).length ≤ 18 := by
  have h1 := numB_nine c.1
  have h2 := numB_nine (2 * c.2.1 + (if c.2.2 = true then 1 else 0))
  unfold chB
  rw [List.length_append]
  omega
theorem chB_snoc (ch : List Ch) (k : Nat) (h : k < ch.length) : (ch.take (k + 1)).flatMap chB = (ch.take k).flatMap chB ++ chB ch[k] := by
  rw [List.take_succ_eq_append_getElem h, List.flatMap_append]
  simp
theorem chBs_len (ch : List Ch) : (ch.flatMap chB).length ≤ 18 * ch.length := by
  induction ch with
  | nil => simp
  | cons c r ih =>
    have := chB_len c
    rw [List.flatMap_cons, List.length_append, List.length_cons]
    omega
theorem listM_mem {f : List Bool} {v : Int} (h : v ∈ listM f) : 0 ≤ v ∧ v < f.length := by
  unfold listM at h
  obtain ⟨a, ha, rfl⟩ := List.mem_map.1 h
  have := List.mem_range.1 (List.mem_filter.1 ha).1
  exact ⟨Int.natCast_nonneg _, by show (a : Int) < _; omega⟩
theorem listM_len4 (f : List Bool) : (listM f).length ≤ f.length := by
  unfold listM
  rw [List.length_map]
  exact Nat.le_trans (List.length_filter_le _ _) (by simp)
theorem shl1 {z v : Int} (hv : 0 ≤ v ∧ v < 4) (hz : 0 ≤ z ∧ z ≤ 100) : IntKind.i64.wrap (z + shlV .i64 1 v) = z + 2 ^ v.toNat := by
  obtain rfl | rfl | rfl | rfl : v = 0 ∨ v = 1 ∨ v = 2 ∨ v = 3 := by omega
  · exact wrap_fit (k := .i64) (n := z + 1) (by unfold Fit; omega)
  · exact wrap_fit (k := .i64) (n := z + 2) (by unfold Fit; omega)
  · exact wrap_fit (k := .i64) (n := z + 4) (by unfold Fit; omega)
  · exact wrap_fit (k := .i64) (n := z + 8) (by unfold Fit; omega)
theorem addF_snoc (z : Int) (l : List Int) (v : Int) : addF z (l ++ [v]) = addF z l + 2 ^ v.toNat := by simp [addF]
theorem pow_bd {v : Int} (hv : 0 ≤ v ∧ v < 4) : (0 : Int) ≤ 2 ^ v.toNat ∧ (2 : Int) ^ v.toNat ≤ 8 := by
  obtain rfl | rfl | rfl | rfl : v = 0 ∨ v = 1 ∨ v = 2 ∨ v = 3 := by omega
  all_goals decide

set_option maxHeartbeats 2000000 in
set_option maxRecDepth 10000 in
theorem gbytes_ok (p : Nat) (a : Option Addr) (cap : Nat) (f : List Bool) (ch : List Ch) (hf : f.length = 4) (hv : Vols ch) (hs : ch.length ≤ 100) :
    RT G 14 [.pointer (some ⟨p, 0, none⟩)] (grpR p a cap f ch) (BytesNew (bytesM f ch)) := by
  refine RT.enter Tryd.func14 rfl (by decide) rfl Tryd.ntmps14 rfl (fun A hu hA => ?_)
  have hE1 : ∀ {L}, A ∈ L → Ent L (cellsAt p 0 (bools f ++ [.slice a ch.length cap])) := fun m => Ent.mem m hu fun k x => (hA k x).1
  have hE2 : ∀ {L}, A ∈ L → Ent L (readS a ch.length 3 (encL ch)) := fun m => Ent.mem m hu fun k x => (hA k x).2
  have hg : (bools f ++ [Value.slice a ch.length cap])[4]? = some (.slice a ch.length cap) := by
    obtain ⟨f0, f1, f2, f3, rfl⟩ := four hf; rfl
  repeat (first | refine GO ?_ | refine NW fun _ => ?_)
  refine WL.step rfl (OP.loadA (l := bools f) rfl rfl rfl rfl (Ent.sub (i := 0) (hE1 MM) (by obtain ⟨f0, f1, f2, f3, rfl⟩ := four hf; rfl)) (by show (f.map Value.bool).length = 4; rw [List.length_map, hf]) rfl rfl ?_)
  refine WL.step rfl (OP.callRT rfl rfl (list_ok f hf) (fun _ _ => trivial) rfl rfl ?_)
  rintro v E ⟨a0, c0, rfl, rfl⟩
  have hl4 := listM_len4 f
  rw [hf] at hl4
  have hmem : ∀ v ∈ listM f, 0 ≤ v ∧ v < 4 := fun v h => by have := listM_mem h; rw [hf] at this; exact this
  have hbits : bitsM f = addF 0 (listM f) := rfl
  unfold bytesM
  rw [hbits]
  generalize listM f = l0 at *
  repeat (first | refine GO ?_ | refine NW fun _ => ?_)
  refine WC.loop (σ := Nat) (fun k => k ≤ l0.length ∧ 0 ≤ addF 0 (l0.take k) ∧ addF 0 (l0.take k) ≤ 8 * k)
    (fun k => [(0, .val (.pointer (some ⟨p, 0, none⟩))), (3, .val (.int .i64 (addF 0 (l0.take k)))), (16, .val (.slice a0 l0.length c0)), (17, .val (.int .i64 l0.length)), (18, .val (.int .i64 k))])
    (fun k => [ownS a0 l0.length c0 3 1 (l0.map vI), A]) (fun k => l0.length - k) 0 ⟨Nat.zero_le _, by simp [addF], by simp [addF]⟩ ⟨rfl, rfl, rfl, rfl, rfl, trivial⟩ (Imp.refl _) ?_
  rintro k ⟨hk, hz0, hz1⟩
  by_cases hlt : k < l0.length
  · repeat (first | refine GD ?_ | refine NW fun _ => ?_)
    refine WL.fact (Ent.some (Ent.own (a := a0) (n := l0.length) (cap := c0) (T := 3) (size := 1) (cs := l0.map vI) MM) (by omega)) ?_
    rintro ⟨b, off, rfl⟩
    repeat (first | refine GD ?_ | refine NW fun _ => ?_)
    refine WL.step rfl (OP.load1 (v := .int .i64 l0[k]) rfl rfl rfl rfl (Ent.elem (i := k * 1) (Ent.own (T := 3) MM) rfl (by simp [vI, hlt])) rfl rfl ?_)
    have hv4 := hmem _ (List.getElem_mem hlt)
    have hsn := addF_snoc 0 (l0.take k) l0[k]
    rw [← List.take_succ_eq_append_getElem hlt] at hsn
    have hpb := pow_bd hv4
    have hsh := shl1 hv4 (z := addF 0 (l0.take k)) (by omega)
    generalize l0[k] = v at *
    obtain ⟨hv40, hv41⟩ := hv4
    repeat (first | refine GD ?_ | refine NW fun _ => ?_)
    rw [hsh]
    exact ⟨k + 1, ⟨by omega, by omega, by omega⟩, by omega, ⟨rfl, by rw [hsn]; rfl, rfl, rfl, rfl, trivial⟩, Imp.refl _⟩
  have hkl : k = l0.length := by omega
  subst hkl
  rw [List.take_length] at hz0 hz1 ⊢
  generalize addF 0 l0 = z at *
  repeat (first | refine GD ?_ | refine NW fun _ => ?_)
  have hz9 := numB_nine z
  have hn9 := numB_nine ch.length
  refine WC.imp (Imp.nilS 5 1) ?_
  refine RD 7 9 ([A]) ?_
  refine WW 0 ?_
  refine WW 2 ?_; refine WW 3 ?_; refine WW 4 ?_
  refine VL 5 (.slice a ch.length cap) rfl rfl rfl rfl (.inl ⟨rfl, Ent.one (i := 4) (hE1 MM) hg⟩) ?_
  refine WW 6 ?_
  refine WH.only 1 rfl rfl (by kernel_rfl) rfl (OP.call (pre := [ownS none 0 0 5 1 (([] : List UInt8).map byteV)]) rfl rfl (number_ok none 0 0 [] z (by omega)) PS rfl rfl (fun v M hM => ?_))
  obtain ⟨a1, cap1, rfl, rfl⟩ := hM
  refine ⟨fun _ => II, ?_⟩
  refine WH.only 7 rfl rfl (by kernel_rfl) rfl (OP.call (pre := [ownS a1 _ cap1 5 1 _]) rfl rfl (number_ok a1 _ cap1 _ ch.length (by omega)) PS rfl rfl (fun v M hM => ?_))
  obtain ⟨a2, cap2, rfl, rfl⟩ := hM
  refine ⟨(fun h => nomatch h), ?_⟩
  refine WW 8 ?_
  refine DN ?_
  rw [List.nil_append]
  generalize hpre : numB (clampN z) ++ numB (clampN ch.length) = pre
  have hpl : 0 + (numB (clampN z)).length + (numB (clampN ch.length)).length = pre.length := by rw [← hpre, List.length_append, Nat.zero_add]
  rw [hpl]
  repeat (first | refine GO ?_ | refine NW fun _ => ?_)
  refine WL.step rfl (OP.load1 (v := .slice a ch.length cap) rfl rfl rfl rfl (Ent.one (i := 4) (hE1 MM) hg) rfl rfl ?_)
  repeat (first | refine GO ?_ | refine NW fun _ => ?_)
  refine WC.loop (σ := Nat × Option Addr × Nat × List UInt8) (fun s => s.1 ≤ ch.length ∧ s.2.2.2 = pre ++ (ch.take s.1).flatMap chB)
    (fun s => [(6, .val (.slice s.2.1 s.2.2.2.length s.2.2.1)), (38, .val (.slice a ch.length cap)), (39, .val (.int .i64 ch.length)), (40, .val (.int .i64 s.1))])
    (fun s => [ownS s.2.1 s.2.2.2.length s.2.2.1 5 1 (s.2.2.2.map byteV), A]) (fun s => ch.length - s.1) (0, a2, cap2, pre) ⟨Nat.zero_le _, by simp⟩ ⟨rfl, rfl, rfl, rfl, trivial⟩ II ?_
  rintro ⟨k, a3, cap3, l3⟩ ⟨hk, hl3⟩
  dsimp only at hk hl3 ⊢
  by_cases hlt : k < ch.length
  rotate_left
  · rw [List.take_of_length_le (by omega)] at hl3
    repeat (first | refine GD ?_ | refine NW fun _ => ?_)
    exact ret1 rfl ⟨[_], ⟨a3, cap3, by rw [← hl3], by rw [← hl3]⟩, II⟩
  have hsn := chB_snoc ch k hlt
  have hbl := chBs_len (ch.take k)
  rw [List.length_take] at hbl
  have hll : l3.length ≤ 2000 := by rw [hl3, List.length_append]; omega
  obtain ⟨v0, v1⟩ := hv ch[k] (List.getElem_mem _)
  repeat (first | refine GD ?_ | refine NW fun _ => ?_)
  refine WL.fact (Ent.some (hE2 MM) (by omega)) ?_
  rintro ⟨b, off, rfl⟩
  repeat (first | refine GD ?_ | refine NW fun _ => ?_)
  refine WL.step rfl (OP.loadA (l := encC ch[k]) rfl rfl rfl rfl (Ent.elems (hE2 MM) rfl (encL_at _ _ hlt)) rfl rfl rfl ?_)
  generalize ch[k] = c at *
  obtain ⟨cm, cv, cg⟩ := c
  dsimp only at v0 v1
  have hm9 := numB_nine cm
  have hx9 := numB_nine (2 * cv + (if cg = true then 1 else 0))
  have e3 : l3 ++ numB (clampN cm) ++ numB (clampN (2 * cv + (if cg = true then 1 else 0))) = pre ++ (ch.take (k + 1)).flatMap chB := by
    rw [hsn, hl3]; unfold chB; simp only [List.append_assoc]
  cases cg
  · repeat (first | refine GD ?_ | refine NW fun _ => ?_)
    refine WL.step rfl (OP.call (pre := [ownS a3 _ cap3 5 1 _]) rfl rfl (number_ok a3 _ cap3 l3 cm (by omega)) PS rfl rfl ?_)
    rintro _ _ ⟨a4, cap4, rfl, rfl⟩
    repeat (first | refine GD ?_ | refine NW fun _ => ?_)
    refine WL.step rfl (OP.call (pre := [ownS a4 _ cap4 5 1 _]) rfl rfl (number_ok a4 _ cap4 _ (2 * cv) (by omega)) PS rfl rfl ?_)
    rintro _ _ ⟨a5, cap5, rfl, rfl⟩
    repeat (first | refine GD ?_ | refine NW fun _ => ?_)
    have e4 : l3 ++ numB (clampN cm) ++ numB (clampN (2 * cv)) = pre ++ (ch.take (k + 1)).flatMap chB := by
      rw [← e3, if_neg (by decide), Int.add_zero]
    rw [e4]
    have e5 : l3.length + (numB (clampN cm)).length + (numB (clampN (2 * cv))).length = (pre ++ (ch.take (k + 1)).flatMap chB).length := by
      rw [← e4]; simp only [List.length_append]
    rw [e5]
    exact ⟨(k + 1, a5, cap5, _), ⟨by dsimp only; omega, rfl⟩, by dsimp only; omega, ⟨rfl, rfl, rfl, rfl, trivial⟩, II⟩
  · repeat (first | refine GD ?_ | refine NW fun _ => ?_)
    refine WL.step rfl (OP.call (pre := [ownS a3 _ cap3 5 1 _]) rfl rfl (number_ok a3 _ cap3 l3 cm (by omega)) PS rfl rfl ?_)
    rintro _ _ ⟨a4, cap4, rfl, rfl⟩
    repeat (first | refine GD ?_ | refine NW fun _ => ?_)
    refine WL.step rfl (OP.call (pre := [ownS a4 _ cap4 5 1 _]) rfl rfl (number_ok a4 _ cap4 _ (2 * cv + 1) (by omega)) PS rfl rfl ?_)
    rintro _ _ ⟨a5, cap5, rfl, rfl⟩
    repeat (first | refine GD ?_ | refine NW fun _ => ?_)
    have e4 : l3 ++ numB (clampN cm) ++ numB (clampN (2 * cv + 1)) = pre ++ (ch.take (k + 1)).flatMap chB := by
      rw [← e3, if_pos rfl]
    rw [e4]
    have e5 : l3.length + (numB (clampN cm)).length + (numB (clampN (2 * cv + 1))).length = (pre ++ (ch.take (k + 1)).flatMap chB).length := by
      rw [← e4]; simp only [List.length_append]
    rw [e5]
    exact ⟨(k + 1, a5, cap5, _), ⟨by dsimp only; omega, rfl⟩, by dsimp only; omega, ⟨rfl, rfl, rfl, rfl, trivial⟩, II⟩
end Go.Proofs.YtkoakmaihcheaabDoor
/- Contracts of functions of the given program, and plain laws on what they compute: parts of the proofs of laws. -/
namespace Go.Proofs.YtkoakmaihcheaabDoor
open Go Go.GL

def setAll (f : List Bool) (l : List Int) : List Bool := l.foldl (fun f v => f.set v.toNat true) f
theorem setAll_length (f : List Bool) (l : List Int) : (setAll f l).length = f.length := by
  induction l generalizing f with
  | nil => rfl
  | cons v r ih => simp only [setAll, List.foldl_cons] at *; rw [ih]; simp
theorem setAll_get (f : List Bool) (l : List Int) (hl : ∀ v ∈ l, 0 ≤ v) (k : Nat) (hk : k < f.length) : (setAll f l).getD k false = (f.getD k false || decide ((k : Int) ∈ l)) := by
  induction l generalizing f with
  | nil => simp [setAll]
  | cons v r ih =>
    have h := ih (f.set v.toNat true) (fun x hx => hl x (List.mem_cons_of_mem _ hx)) (by simpa using hk)
    have e : setAll f (v :: r) = setAll (f.set v.toNat true) r := rfl
    rw [e, h]
    have hv := hl v (List.mem_cons_self)
    by_cases hkv : (k : Int) = v
    · have : v.toNat = k := by omega
      subst this
      simp [hk, hkv]
    · have h1 : v.toNat ≠ k := by omega
      have h2 : decide ((k : Int) ∈ v :: r) = decide ((k : Int) ∈ r) := by simp [hkv]
      rw [h2]
      congr 1
      simp [List.getD, h1]
theorem newM_iff (l : List Int) (f g : List Bool) (hf : f.length = 4) : newM l f = .ok g ↔ ((∀ v ∈ l, 0 ≤ v ∧ v < 4) ∧ l.Nodup ∧ (∀ v ∈ l, f.getD v.toNat false = false) ∧ g = setAll f l) := by
  induction l generalizing f with
  | nil =>
    unfold newM
    constructor
    · intro h; cases h; simp [setAll]
    · rintro ⟨_, _, _, rfl⟩; rfl
  | cons v r ih =>
    rw [newM_cons]
    by_cases hv : 0 ≤ v ∧ v < 4
    · rw [if_pos hv]
      by_cases hb : f.getD v.toNat false = true
      · rw [if_pos hb]
        constructor
        · intro h; cases h
        · rintro ⟨_, _, h, _⟩
          have := h v (List.mem_cons_self)
          rw [hb] at this; cases this
      · rw [if_neg hb, ih _ (by simpa using hf)]
        have hb : f.getD v.toNat false = false := by simpa using hb
        have e : setAll f (v :: r) = setAll (f.set v.toNat true) r := rfl
        rw [e]
        have key : ∀ x ∈ r, 0 ≤ x → ((f.set v.toNat true).getD x.toNat false = false ↔ (x ≠ v ∧ f.getD x.toNat false = false)) := by
          intro x hx x0
          by_cases hxv : x = v
          · subst hxv
            have : x.toNat < f.length := by omega
            simp [List.getD, this]
          · have h1 : v.toNat ≠ x.toNat := by omega
            simp [List.getD, h1, hxv]
        constructor
        · rintro ⟨h1, h2, h3, h4⟩
          refine ⟨?_, ?_, ?_, h4⟩
          · intro x hx
            rcases List.mem_cons.1 hx with rfl | hx
            · exact hv
            · exact h1 x hx
          · refine List.nodup_cons.2 ⟨fun hm => ?_, h2⟩
            exact ((key v hm hv.1).1 (h3 v hm)).1 rfl
          · intro x hx
            rcases List.mem_cons.1 hx with rfl | hx
            · exact hb
            · exact ((key x hx (h1 x hx).1).1 (h3 x hx)).2
        · rintro ⟨h1, h2, h3, h4⟩
          obtain ⟨h2a, h2b⟩ := List.nodup_cons.1 h2
          refine ⟨fun x hx => h1 x (List.mem_cons_of_mem _ hx), h2b, fun x hx => ?_, h4⟩
          exact (key x hx (h1 x (List.mem_cons_of_mem _ hx)).1).2 ⟨fun e => h2a (e ▸ hx), h3 x (List.mem_cons_of_mem _ hx)⟩
    · rw [if_neg hv]
      constructor
      · intro h; cases h
      · rintro ⟨h, _⟩; exact absurd (h v (List.mem_cons_self)) hv
def f0 : List Bool := [false, false, false, false]
theorem setAll_rev (l : List Int) (hl : ∀ v ∈ l, 0 ≤ v) : setAll f0 l.reverse = setAll f0 l := by
  apply List.ext_getElem
  · rw [setAll_length, setAll_length]
  · intro k h1 h2
    have hk : k < f0.length := by rw [setAll_length] at h1; exact h1
    have e1 := setAll_get f0 l hl k hk
    have e2 := setAll_get f0 l.reverse (fun v hv => hl v (List.mem_reverse.1 hv)) k hk
    rw [show (setAll f0 l).getD k false = (setAll f0 l)[k] by simp [List.getD, h2]] at e1
    rw [show (setAll f0 l.reverse).getD k false = (setAll f0 l.reverse)[k] by simp [List.getD, h1]] at e2
    rw [e1, e2]
    simp
theorem newM_rev {l : List Int} {g : List Bool} (h : newM l f0 = .ok g) : newM l.reverse f0 = .ok g := by
  obtain ⟨h1, h2, h3, h4⟩ := (newM_iff l f0 g rfl).1 h
  refine (newM_iff _ f0 g rfl).2 ⟨fun v hv => h1 v (List.mem_reverse.1 hv), (List.reverse_perm l).nodup_iff.2 h2, fun v hv => h3 v (List.mem_reverse.1 hv), ?_⟩
  rw [h4, setAll_rev l (fun v hv => (h1 v hv).1)]
theorem newM_rev_err {l : List Int} {e : Int × Int} (h : newM l f0 = .error e) : ∃ e', newM l.reverse f0 = .error e' := by
  cases h2 : newM l.reverse f0 with
  | error e' => exact ⟨e', rfl⟩
  | ok g =>
    have := newM_rev h2
    rw [List.reverse_reverse, h] at this
    cases this
theorem newM_code {l : List Int} {f : List Bool} {v c : Int} (h : newM l f = .error (v, c)) : c = 5 ∨ c = 1 := by
  induction l generalizing f with
  | nil => cases h
  | cons x r ih =>
    rw [newM_cons] at h
    split at h
    · split at h
      · cases h; exact .inr rfl
      · exact ih h
    · cases h; exact .inl rfl
theorem listM_rise (f : List Bool) (hf : f.length = 4) : (listM f).Pairwise (· < ·) := by
  obtain ⟨a, b, c, d, rfl⟩ : ∃ a b c d, f = [a, b, c, d] := by
    match f, hf with
    | [a, b, c, d], _ => exact ⟨a, b, c, d, rfl⟩
  cases a <;> cases b <;> cases c <;> cases d <;> decide
theorem mem_listB (f : List Bool) (k : Nat) (hk : k < f.length) : ((k : Int) ∈ listM f) ↔ f.getD k false = true := by
  unfold listM
  constructor
  · intro h
    obtain ⟨a, ha, e⟩ := List.mem_map.1 h
    have := (List.mem_filter.1 ha).2
    have e : a = k := Int.ofNat.inj e
    subst e
    exact this
  · intro h
    exact List.mem_map.2 ⟨k, List.mem_filter.2 ⟨List.mem_range.2 hk, h⟩, rfl⟩
theorem order_mem {l : List Int} {g : List Bool} (h : newM l f0 = .ok g) (v : Int) : v ∈ listM g ↔ v ∈ l := by
  obtain ⟨h1, h2, h3, h4⟩ := (newM_iff l f0 g rfl).1 h
  have hgl : g.length = 4 := by rw [h4, setAll_length]; rfl
  have hin : ∀ v : Int, 0 ≤ v → v < 4 → (v ∈ listM g ↔ v ∈ l) := by
    intro v v0 v4
    have e := mem_listB g v.toNat (by omega)
    have e2 := setAll_get f0 l (fun v hv => (h1 v hv).1) v.toNat (by show v.toNat < 4; omega)
    rw [Int.toNat_of_nonneg v0] at e e2
    rw [e, h4, e2]
    have : f0.getD v.toNat false = false := by
      obtain rfl | rfl | rfl | rfl : v = 0 ∨ v = 1 ∨ v = 2 ∨ v = 3 := by omega
      all_goals rfl
    rw [this]
    simp
  constructor
  · intro hv
    have := hv
    unfold listM at this
    obtain ⟨a, ha, rfl⟩ := List.mem_map.1 this
    have := List.mem_range.1 (List.mem_filter.1 ha).1
    exact (hin _ (Int.natCast_nonneg _) (by show (a : Int) < 4; omega)).1 hv
  · intro hv
    exact (hin v (h1 v hv).1 (h1 v hv).2).2 hv
theorem order_len {l : List Int} {g : List Bool} (h : newM l f0 = .ok g) : (listM g).length = l.length := by
  obtain ⟨h1, h2, h3, h4⟩ := (newM_iff l f0 g rfl).1 h
  have hgl : g.length = 4 := by rw [h4, setAll_length]; rfl
  have hn : (listM g).Nodup := (listM_rise g hgl).imp (fun h => by omega)
  exact ((List.perm_ext_iff_of_nodup hn h2).2 (order_mem h)).length_eq
end Go.Proofs.YtkoakmaihcheaabDoor
/- Contracts of functions of the given program, and plain laws on what they compute: parts of the proofs of laws. -/
namespace Go.Proofs.YtkoakmaihcheaabDoor
open Go Go.GL

inductive Inc : List Ch → Prop
  | nil : Inc []
  | snoc {ch : List Ch} {c : Ch} : Inc ch → lastM ch < c.1 → Inc (ch ++ [c])
theorem Inc.srt {ch : List Ch} (h : Inc ch) : Srt ch := by
  induction h with
  | nil => intro x hx; cases hx
  | snoc _ hl ih =>
    intro x hx
    rw [lastM_snoc]
    rcases List.mem_append.1 hx with hx | hx
    · have := ih x hx; omega
    · rw [List.mem_singleton.1 hx]; exact Int.le_refl _
theorem inc_put {f : List Bool} {ch : List Ch} {c : Ch} (h : Inc ch) : Inc (putCh f ch c) := by
  rcases putCh_cases f ch c with ⟨h1, h2⟩ | ⟨_, h2⟩
  · rw [h2]; exact .snoc h (put_none h1).2.1
  · rw [h2]; exact h
/-- does a volume belong at a marker? each change in turn -/
def hasQ (f : List Bool) (ch : List Ch) (v m : Int) : Bool := ch.foldl (fun ok c => if c.2.1 = v ∧ c.1 ≤ m then !c.2.2 else ok) (f.getD v.toNat false)
theorem hasQ_snoc (f : List Bool) (ch : List Ch) (c : Ch) (v m : Int) : hasQ f (ch ++ [c]) v m = if c.2.1 = v ∧ c.1 ≤ m then !c.2.2 else hasQ f ch v m := by
  unfold hasQ
  rw [List.foldl_append]
  rfl
theorem get_set (s : List Bool) (i j : Nat) (x : Bool) (hi : i < s.length) : (s.set i x).getD j false = if i = j then x else s.getD j false := by
  by_cases h : i = j
  · subst h; simp [List.getD, hi]
  · simp [List.getD, h]
theorem hasQ_at {f : List Bool} {ch : List Ch} (hi : Inc ch) (hv : Vols ch) (hf : f.length = 4) {v m : Int} (hv0 : 0 ≤ v ∧ v < 4) : hasQ f ch v m = (atM m f ch).getD v.toNat false := by
  induction hi with
  | nil => rfl
  | @snoc ch c h1 h2 ih =>
    have ih := ih (fun x hx => hv x (List.mem_append_left _ hx))
    have hc := hv c (List.mem_append_right _ (List.mem_singleton.2 rfl))
    rw [hasQ_snoc]
    by_cases hm : c.1 ≤ m
    · rw [atM_high (Inc.snoc h1 h2).srt (by rw [lastM_snoc]; exact hm), after_snoc]
      unfold step
      rw [get_set _ _ _ _ (by rw [after_length, hf]; omega)]
      rw [atM_high h1.srt (by omega)] at ih
      by_cases hvv : c.2.1 = v
      · rw [if_pos ⟨hvv, hm⟩, if_pos (by rw [hvv])]
      · rw [if_neg (fun h => hvv h.1), if_neg (by omega), ih]
    · rw [if_neg (fun h => hm h.2), ih, atM_low (.inl (by omega))]
/-- the volumes at a marker, one by one -/
def listQ (f : List Bool) (ch : List Ch) (m : Int) (k : Nat) : List Int := ((List.range k).filter (fun (i : Nat) => hasQ f ch (i : Int) m)).map Int.ofNat
theorem listQ_succ (f : List Bool) (ch : List Ch) (m : Int) (k : Nat) : listQ f ch m (k + 1) = if hasQ f ch (k : Int) m = true then listQ f ch m k ++ [(k : Int)] else listQ f ch m k := by
  unfold listQ
  rw [List.range_succ, List.filter_append, List.map_append]
  rw [List.filter_cons, List.filter_nil]
  split <;> simp
theorem listQ_at {f : List Bool} {ch : List Ch} (hi : Inc ch) (hv : Vols ch) (hf : f.length = 4) (m : Int) : listQ f ch m 4 = listM (atM m f ch) := by
  unfold listQ listM
  rw [atM_length, hf]
  congr 1
  apply List.filter_congr
  intro i hi4
  have hi4 := List.mem_range.1 hi4
  rw [hasQ_at hi hv hf ⟨by omega, by omega⟩]
  rfl
def bI (b : Bool) : Int := bif b then 1 else 0
theorem bits_sum (a b c d : Bool) : bitsM [a, b, c, d] = bI a + 2 * bI b + 4 * bI c + 8 * bI d := by
  cases a <;> cases b <;> cases c <;> cases d <;> decide
end Go.Proofs.YtkoakmaihcheaabDoor
/- Contracts of functions of the given program, and plain laws on what they compute: parts of the proofs of laws. -/

namespace Go.Proofs.YtkoakmaihcheaabDoor
open Go Go.GL

theorem ba_app (l m : List UInt8) : ba l ++ ba m = ba (l ++ m) := by
  apply ByteArray.ext
  simp [ba]
theorem ba_appD (l : List UInt8) (s : ByteArray) : ba l ++ s = ba (l ++ s.data.toList) := by rw [← ba_app, ba_data]
/-- one bit of the check, bit by bit -/
def bitS (c : W32) : W32 := (c >>> 1) ^^^ (bif c.getLsbD 0 then 2197175160#32 else 0#32)
theorem bitS_xor (a b : W32) : bitS (a ^^^ b) = bitS a ^^^ bitS b := by
  unfold bitS
  rw [BitVec.ushiftRight_xor_distrib, BitVec.getLsbD_xor]
  generalize a >>> 1 = x
  generalize b >>> 1 = y
  cases a.getLsbD 0 <;> cases b.getLsbD 0
  · simp
  · simp only [Bool.false_bne, cond_true, cond_false, BitVec.xor_zero]; ac_rfl
  · simp only [Bool.bne_false, cond_true, cond_false, BitVec.xor_zero]; ac_rfl
  · show x ^^^ y ^^^ 0#32 = _
    rw [BitVec.xor_zero]
    show x ^^^ y = x ^^^ 2197175160#32 ^^^ (y ^^^ 2197175160#32)
    rw [show x ^^^ 2197175160#32 ^^^ (y ^^^ 2197175160#32) = x ^^^ y ^^^ (2197175160#32 ^^^ 2197175160#32) by ac_rfl, BitVec.xor_self, BitVec.xor_zero]
theorem bitS_even (c : W32) (h : c.getLsbD 0 = false) : bitS c = c >>> 1 := by unfold bitS; rw [h]; simp
def bits4 (c : W32) : W32 := bitS (bitS (bitS (bitS c)))
theorem bits4_xor (a b : W32) : bits4 (a ^^^ b) = bits4 a ^^^ bits4 b := by unfold bits4; simp only [bitS_xor]
theorem low_shr (c : W32) (n k : Nat) (h : c.getLsbD (n + k) = false) : (c >>> n).getLsbD k = false := by rw [BitVec.getLsbD_ushiftRight]; exact h
theorem bits4_hi (c : W32) (h : ∀ i, i < 4 → c.getLsbD i = false) : bits4 c = c >>> 4 := by
  unfold bits4
  rw [bitS_even c (h 0 (by decide)), bitS_even (c >>> 1) (low_shr c 1 0 (h 1 (by decide))), ← BitVec.shiftRight_add, bitS_even (c >>> (1 + 1)) (low_shr c 2 0 (h 2 (by decide))), ← BitVec.shiftRight_add,
    bitS_even (c >>> (1 + 1 + 1)) (low_shr c 3 0 (h 3 (by decide))), ← BitVec.shiftRight_add]
set_option maxRecDepth 10000 in
theorem bits4_low : ∀ k : Fin 16, bits4 (BitVec.ofNat 32 k.val) = tbl.getD k.val 0 := by decide
theorem low4 : ∀ i, i < 32 → (15#32 : W32).getLsbD i = decide (i < 4) := by decide
theorem half_bits (c : W32) : half c = bits4 c := by
  have e : c = (c &&& ~~~15#32) ^^^ (c &&& 15#32) := by
    apply BitVec.eq_of_getLsbD_eq
    intro i hi
    simp only [BitVec.getLsbD_xor, BitVec.getLsbD_and, BitVec.getLsbD_not, hi, low4 i hi]
    cases c.getLsbD i <;> cases decide (i < 4) <;> rfl
  have hlow : (c &&& 15#32).toNat < 16 := by rw [BitVec.toNat_and]; exact Nat.lt_of_le_of_lt Nat.and_le_right (by decide)
  have e1 : bits4 (c &&& 15#32) = tbl.getD (c &&& 15#32).toNat 0 := by
    have := bits4_low ⟨(c &&& 15#32).toNat, hlow⟩
    simp only [BitVec.ofNat_toNat, BitVec.setWidth_eq] at this
    exact this
  have e2 : bits4 (c &&& ~~~15#32) = c >>> 4 := by
    rw [bits4_hi]
    · apply BitVec.eq_of_getLsbD_eq
      intro i hi
      simp only [BitVec.getLsbD_ushiftRight, BitVec.getLsbD_and, BitVec.getLsbD_not]
      by_cases h : 4 + i < 32
      · rw [low4 (4 + i) h, decide_eq_false (show ¬ 4 + i < 4 by omega), decide_eq_true h]
        simp
      · rw [BitVec.getLsbD_of_ge _ _ (show 32 ≤ 4 + i by omega)]
        simp
    · intro i hi
      simp only [BitVec.getLsbD_and, BitVec.getLsbD_not, low4 i (by omega)]
      simp [hi]
  conv => rhs; rw [e, bits4_xor, e1, e2]
  rfl
/-- so many bits of the check -/
def bitN : Nat → W32 → W32
  | 0, c => c
  | n + 1, c => bitS (bitN n c)
theorem bit8 (c : W32) : bitN 8 c = half (half c) := by rw [half_bits, half_bits]; rfl
theorem bitS_int (c : W32) : ((bitS c).toNat : Int) = if (c.toNat : Int) % 2 = 1 then bitsV .xor .u32 ((c.toNat : Int) / 2) 2197175160 else (c.toNat : Int) / 2 := by
  have h1 : (c.toNat : Int) / (2 : Int) = ((c >>> 1).toNat : Int) := by rw [BitVec.toNat_ushiftRight, Nat.shiftRight_eq_div_pow]; omega
  have h2 := xor_u32 (c >>> 1) 2197175160#32
  rw [show (((2197175160#32 : W32).toNat : Nat) : Int) = 2197175160 from rfl] at h2
  rw [h1, h2]
  have h3 : c.getLsbD 0 = decide (c.toNat % 2 = 1) := by rw [← BitVec.testBit_toNat, Nat.testBit_zero]
  unfold bitS
  rw [h3]
  by_cases h : c.toNat % 2 = 1
  · rw [if_pos (by omega), decide_eq_true h]; rfl
  · rw [if_neg (by omega), decide_eq_false h]; simp
theorem byteAt_ba (l : List UInt8) (k : Nat) (h : k < l.length) : byteAt (ba l) k = (l[k].toNat : Int) := by
  unfold byteAt ba
  simp [h]

set_option maxHeartbeats 2000000 in
set_option maxRecDepth 10000 in
theorem qof_ro (l : List UInt8) (hs : l.length < 1000000) : RO G 75 [.string (ba l)] (fun _ => True) (u32V (crc l)) := by
  refine RO.enter Tryd.func75 rfl (by decide) rfl Tryd.ntmps75 rfl (fun A hu hA => ?_) (fun _ _ _ h => h)
  have hsz := ba_size l
  repeat (first | refine GO ?_ | refine NW fun _ => ?_)
  refine WC.loop (σ := Nat) (fun k => k ≤ l.length)
    (fun k => [(0, .val (.string (ba l))), (3, .val (.int .u32 ((crcF (BitVec.allOnes 32) (l.take k)).toNat : Int))), (4, .val (.int .i64 k))])
    (fun k => [A]) (fun k => l.length - k) 0 (Nat.zero_le _) ⟨rfl, rfl, rfl, trivial⟩ (Imp.refl _) ?_
  rintro k hk
  by_cases hlt : k < l.length
  rotate_left
  · have : l.take k = l := List.take_of_length_le (by omega)
    rw [this]
    have hn : (4294967295 : Int) - ((crcF (BitVec.allOnes 32) l).toNat : Int) = ((crc l).toNat : Int) := by
      unfold crc
      rw [BitVec.toNat_not]
      have := (crcF (BitVec.allOnes 32) l).isLt
      omega
    have hlt32 := (crcF (BitVec.allOnes 32) l).isLt
    generalize crcF (BitVec.allOnes 32) l = c at *
    repeat (first | refine GD ?_ | refine NW fun _ => ?_)
    rw [hn]
    exact ret1 rfl ⟨rfl, MM⟩
  have hsn : crcF (BitVec.allOnes 32) (l.take (k + 1)) = crcStep (crcF (BitVec.allOnes 32) (l.take k)) l[k] := by
    unfold crcF
    rw [List.take_succ_eq_append_getElem hlt, List.foldl_append]
    rfl
  have hby := byteAt_ba l k hlt
  generalize l[k] = x at *
  have hx8 : x.toNat < 256 := x.toNat_lt
  generalize crcF (BitVec.allOnes 32) (l.take k) = c at *
  have hby0 : 0 ≤ byteAt (ba l) k := by omega
  have hby1 : byteAt (ba l) k < 256 := by omega
  repeat (first | refine GD ?_ | refine NW fun _ => ?_)
  have hx := xor_u32 c (BitVec.ofNat 32 x.toNat)
  have hb : ((BitVec.ofNat 32 x.toNat).toNat : Int) = x.toNat := by rw [BitVec.toNat_ofNat]; omega
  rw [hb] at hx
  rw [hby, hx]
  refine WC.loop (σ := Nat) (fun j => j ≤ 8)
    (fun j => [(0, .val (.string (ba l))), (3, .val (.int .u32 ((bitN j (c ^^^ BitVec.ofNat 32 x.toNat)).toNat : Int))), (4, .val (.int .i64 k)), (5, .val (.int .i64 j))])
    (fun _ => [A]) (fun j => 8 - j) 0 (Nat.zero_le _) ⟨rfl, rfl, rfl, rfl, trivial⟩ (Imp.refl _) ?_
  rintro j hj
  by_cases hlt8 : j < 8
  rotate_left
  · have hj8 : j = 8 := by omega
    subst hj8
    rw [bit8]
    repeat (first | refine GD ?_ | refine NW fun _ => ?_)
    exact ⟨k + 1, by omega, by omega, ⟨rfl, by rw [hsn]; rfl, rfl, trivial⟩, Imp.refl _⟩
  have hbi := bitS_int (bitN j (c ^^^ BitVec.ofNat 32 x.toNat))
  have hbn : bitN (j + 1) (c ^^^ BitVec.ofNat 32 x.toNat) = bitS (bitN j (c ^^^ BitVec.ofNat 32 x.toNat)) := rfl
  rw [← hbn] at hbi
  have hlt32 := (bitN j (c ^^^ BitVec.ofNat 32 x.toNat)).isLt
  generalize bitN j (c ^^^ BitVec.ofNat 32 x.toNat) = d at *
  by_cases hodd : (d.toNat : Int) % 2 = 1
  · rw [if_pos hodd] at hbi
    repeat (first | refine GD ?_ | refine NW fun _ => ?_)
    exact ⟨j + 1, by omega, by omega, ⟨rfl, by rw [hbi]; rfl, rfl, rfl, trivial⟩, Imp.refl _⟩
  · rw [if_neg hodd] at hbi
    repeat (first | refine GD ?_ | refine NW fun _ => ?_)
    exact ⟨j + 1, by omega, by omega, ⟨rfl, by rw [hbi]; rfl, rfl, rfl, trivial⟩, Imp.refl _⟩
set_option maxHeartbeats 1000000 in
set_option maxRecDepth 10000 in
theorem qseal_ro (l : List UInt8) (hs : l.length < 100000) : RO G 73 [.string (ba l)] (fun _ => True) (.string (ba (l ++ tailM l))) := by
  refine RO.enter Tryd.func73 rfl (by decide) rfl Tryd.ntmps73 rfl (fun A hu hA => ?_) (fun _ _ _ h => h)
  have hsz := ba_size l
  repeat (first | refine GO ?_ | refine NW fun _ => ?_)
  refine WL.step rfl (OP.callRO rfl rfl (qof_ro l (by omega)) (fun _ _ => trivial) rfl rfl ?_)
  have hlt32 := (crc l).isLt
  unfold tailM
  generalize crc l = c at *
  unfold u32V
  have b0 : Value.int .u8 ((c.toNat : Int) % 256) = byteV (UInt8.ofNat (c.toNat % 256)) := by
    unfold byteV; congr 1; rw [UInt8.toNat_ofNat']; omega
  have b1 : Value.int .u8 ((c.toNat : Int) / 256 % 256) = byteV (UInt8.ofNat ((c >>> 8).toNat % 256)) := by
    unfold byteV; congr 1; rw [UInt8.toNat_ofNat', BitVec.toNat_ushiftRight, Nat.shiftRight_eq_div_pow]; omega
  have b2 : Value.int .u8 ((c.toNat : Int) / 65536 % 256) = byteV (UInt8.ofNat ((c >>> 16).toNat % 256)) := by
    unfold byteV; congr 1; rw [UInt8.toNat_ofNat', BitVec.toNat_ushiftRight, Nat.shiftRight_eq_div_pow]; omega
  have b3 : Value.int .u8 ((c.toNat : Int) / 16777216) = byteV (UInt8.ofNat ((c >>> 24).toNat % 256)) := by
    unfold byteV; congr 1; rw [UInt8.toNat_ofNat', BitVec.toNat_ushiftRight, Nat.shiftRight_eq_div_pow]; omega
  repeat (first | refine GD ?_ | refine NW fun _ => ?_)
  rw [b0, b1, b2, b3]
  refine WL.step rfl (OP.toStr (sv := ba (le4 c)) rfl rfl rfl rfl rfl rfl rfl rfl (by rw [strCells_ba]; exact Ent.own (T := 5) MM) rfl rfl ?_)
  have hs4 : (ba (le4 c)).size = 4 := rfl
  repeat (first | refine GD ?_ | refine NW fun _ => ?_)
  rw [ba_app]
  exact ret1 rfl ⟨rfl, MM⟩
set_option maxHeartbeats 1000000 in
set_option maxRecDepth 10000 in
theorem qsector_ro (l : List UInt8) (hs : l.length ≤ 60) : RO G 64 [.string (ba l)] (fun _ => True) (.tuple #[.string (ba (sectorM l)), .bool true]) := by
  refine RO.enter Tryd.func64 rfl (by decide) rfl Tryd.ntmps64 rfl (fun A hu hA => ?_) (fun _ _ _ h => h)
  have hsz := ba_size l
  repeat (first | refine GD ?_ | refine NW fun _ => ?_)
  refine WC.loop (σ := Nat) (fun k => l.length + k ≤ 60)
    (fun k => [(0, .val (.string (ba (l ++ List.replicate k 0))))])
    (fun _ => [A]) (fun k => 60 - k) 0 (by omega) ⟨by simp; rfl, trivial⟩ (Imp.refl _) ?_
  rintro k hk
  have hsz := ba_size (l ++ List.replicate k 0)
  rw [List.length_append, List.length_replicate] at hsz
  by_cases h60 : l.length + k < 60
  · have hz1 : (⟨#[0]⟩ : ByteArray).size = 1 := rfl
    repeat (first | refine GD ?_ | refine NW fun _ => ?_)
    refine ⟨k + 1, by omega, by omega, ⟨?_, trivial⟩, Imp.refl _⟩
    rw [List.replicate_succ', ← List.append_assoc, ← ba_app]
    rfl
  · have hp : l ++ List.replicate k 0 = padM l := by unfold padM; rw [show 60 - l.length = k by omega]
    rw [hp] at hsz ⊢
    have hpl := padM_len hs
    repeat (first | refine GD ?_ | refine NW fun _ => ?_)
    refine WL.step rfl (OP.callRO rfl rfl (qseal_ro (padM l) (by omega)) (fun _ _ => trivial) rfl rfl ?_)
    repeat (first | refine GD ?_ | refine NW fun _ => ?_)
    exact ret2 rfl rfl ⟨rfl, MM⟩
end Go.Proofs.YtkoakmaihcheaabDoor
/- Contracts of functions of the given program, and plain laws on what they compute: parts of the proofs of laws. -/

namespace Go.Proofs.YtkoakmaihcheaabDoor
open Go Go.GL

set_option maxHeartbeats 1000000 in
set_option maxRecDepth 10000 in
theorem qnumber_ro (x : Int) : RO G 50 [.int .i64 x] (fun _ => True) (.string (ba (numB (clampN x)))) := by
  refine RO.enter Tryd.func50 rfl (by decide) rfl Tryd.ntmps50 rfl (fun A hu hA => ?_) (fun _ _ _ h => h)
  repeat (first | refine GO ?_ | refine NW fun _ => ?_)
  have hcl : (if (0 : Int) < (if (1152921504606846975 : Int) < x then (1152921504606846975 : Int) else x) then (if (1152921504606846975 : Int) < x then (1152921504606846975 : Int) else x) else 0) = (clampN x : Int) := by
    unfold clampN widest
    split <;> split <;> omega
  rw [hcl]
  have hc1 := clamp_le x
  unfold widest at hc1
  have h9 := numB_nine x
  generalize clampN x = y0 at *
  refine WC.loop (σ := List UInt8 × Nat) (fun s => s.1 ++ numB s.2 = numB y0 ∧ s.2 ≤ y0)
    (fun s => [(0, .val (.int .i64 s.2)), (3, .val (.string (ba s.1)))])
    (fun _ => [A]) (fun s => s.2) ([], y0) ⟨rfl, Nat.le_refl _⟩ ⟨rfl, rfl, trivial⟩ II ?_
  rintro ⟨l1, y⟩ ⟨hl1, hy⟩
  dsimp only at hl1 hy ⊢
  have hlen1 : l1.length + (numB y).length = (numB y0).length := by rw [← hl1, List.length_append]
  have hsz := ba_size l1
  by_cases hge : 128 ≤ y
  · rw [numB_ge (by omega)] at hl1
    have hb : Value.int .u8 ((y : Int) % 128 + 128) = byteV (UInt8.ofNat (y % 128 + 128)) := by
      unfold byteV; congr 1; rw [UInt8.toNat_ofNat']; omega
    have hd : (y : Int) / 128 = ((y / 128 : Nat) : Int) := by omega
    repeat (first | refine GD ?_ | refine NW fun _ => ?_)
    rw [hb]
    refine WL.step rfl (OP.toStr (sv := ba [UInt8.ofNat (y % 128 + 128)]) rfl rfl rfl rfl rfl rfl rfl rfl (by rw [strCells_ba]; exact Ent.own (T := 5) MM) rfl rfl ?_)
    have hs1 : (ba [UInt8.ofNat (y % 128 + 128)]).size = 1 := rfl
    repeat (first | refine GD ?_ | refine NW fun _ => ?_)
    rw [ba_app, hd]
    exact ⟨(l1 ++ [UInt8.ofNat (y % 128 + 128)], y / 128), ⟨by simp only []; rw [List.append_assoc]; exact hl1, by dsimp only; omega⟩, by dsimp only; omega, ⟨rfl, rfl, trivial⟩, II⟩
  · rw [numB_lt (by omega)] at hl1
    have hb : Value.int .u8 (y : Int) = byteV (UInt8.ofNat y) := by
      unfold byteV; congr 1; rw [UInt8.toNat_ofNat']; omega
    repeat (first | refine GD ?_ | refine NW fun _ => ?_)
    rw [hb]
    refine WL.step rfl (OP.toStr (sv := ba [UInt8.ofNat y]) rfl rfl rfl rfl rfl rfl rfl rfl (by rw [strCells_ba]; exact Ent.own (T := 5) MM) rfl rfl ?_)
    have hs1 : (ba [UInt8.ofNat y]).size = 1 := rfl
    repeat (first | refine GD ?_ | refine NW fun _ => ?_)
    rw [ba_app, hl1]
    exact ret1 rfl ⟨rfl, MM⟩
set_option maxRecDepth 10000 in
theorem qtext_ro (s : ByteArray) (hs : s.size < 1000000) : RO G 63 [.string s] (fun _ => True) (.string (ba (textB s))) := by
  refine RO.enter Tryd.func63 rfl (by decide) rfl Tryd.ntmps63 rfl (fun A hu hA => ?_) (fun _ _ _ h => h)
  repeat (first | refine GO ?_ | refine NW fun _ => ?_)
  refine WL.step rfl (OP.callRO rfl rfl (qnumber_ro s.size) (fun _ _ => trivial) rfl rfl ?_)
  have h9 := numB_nine s.size
  rw [clamp_nat s.size (by unfold widest; omega)] at h9 ⊢
  have hsz := ba_size (numB s.size)
  repeat (first | refine GD ?_ | refine NW fun _ => ?_)
  rw [ba_appD]
  exact ret1 rfl ⟨rfl, MM⟩
set_option maxHeartbeats 4000000 in
set_option maxRecDepth 10000 in
theorem qright_ro (r : Rec) (hsz : r.2.2.2.1.size < 1000000) : RO G 22 [.agg (encR r).toArray] (fun _ => True) (.bool (decide (RightR r))) := by
  refine RO.enter Tryd.func22 rfl (by decide) rfl Tryd.ntmps22 rfl (fun A hu hA => ?_) (fun _ _ _ h => h)
  obtain ⟨seq, kind, block, data, num⟩ := r
  unfold RightR widest
  dsimp only at hsz ⊢
  rw [show encR (seq, kind, block, data, num) = [.int .i64 seq, .int .i64 kind, .int .i64 block, .string data, .int .i64 num] from rfl]
  by_cases hs1 : seq < 1
  · repeat (first | refine GD ?_ | refine NW fun _ => ?_)
    exact ret1 rfl ⟨congrArg Value.bool (decide_eq_false (fun h => by have := h.1; omega)).symm, MM⟩
  by_cases hs2 : 1152921504606846975 < seq
  · repeat (first | refine GD ?_ | refine NW fun _ => ?_)
    exact ret1 rfl ⟨congrArg Value.bool (decide_eq_false (fun h => by have := h.1; omega)).symm, MM⟩
  have hs3 : (1 ≤ seq ∧ seq ≤ 1152921504606846975) := by omega
  by_cases h1 : kind = 1
  · by_cases hb0 : 0 ≤ block
    rotate_left
    · repeat (first | refine GD ?_ | refine NW fun _ => ?_)
      exact ret1 rfl ⟨by first | (simp; omega) | (simp [*]; omega) | simp [*], MM⟩
    by_cases hb8 : block ≤ 7
    rotate_left
    · repeat (first | refine GD ?_ | refine NW fun _ => ?_)
      exact ret1 rfl ⟨by first | (simp; omega) | (simp [*]; omega) | simp [*], MM⟩
    have hb8' : block < 8 := by omega
    by_cases hs16 : data.size ≤ 16
    rotate_left
    · repeat (first | refine GD ?_ | refine NW fun _ => ?_)
      exact ret1 rfl ⟨by first | (simp; omega) | (simp [*]; omega) | simp [*], MM⟩
    by_cases hn0 : num = 0
    · repeat (first | refine GD ?_ | refine NW fun _ => ?_)
      exact ret1 rfl ⟨by first | (simp; omega) | (simp [*]; omega) | simp [*], MM⟩
    · repeat (first | refine GD ?_ | refine NW fun _ => ?_)
      exact ret1 rfl ⟨by first | (simp; omega) | (simp [*]; omega) | simp [*], MM⟩
  · by_cases h2 : kind = 2
    rotate_left
    · repeat (first | refine GD ?_ | refine NW fun _ => ?_)
      exact ret1 rfl ⟨by first | (simp; omega) | (simp [*]; omega) | simp [*], MM⟩
    by_cases hb : block = 0
    rotate_left
    · repeat (first | refine GD ?_ | refine NW fun _ => ?_)
      exact ret1 rfl ⟨by first | (simp; omega) | (simp [*]; omega) | simp [*], MM⟩
    by_cases hd : data = ⟨#[]⟩
    rotate_left
    · repeat (first | refine GD ?_ | refine NW fun _ => ?_)
      exact ret1 rfl ⟨by first | (simp; omega) | (simp [*]; omega) | simp [*], MM⟩
    by_cases hn1 : 1 ≤ num
    rotate_left
    · repeat (first | refine GD ?_ | refine NW fun _ => ?_)
      exact ret1 rfl ⟨by first | (simp; omega) | (simp [*]; omega) | simp [*], MM⟩
    by_cases hn2 : num ≤ 1152921504606846975
    · repeat (first | refine GD ?_ | refine NW fun _ => ?_)
      exact ret1 rfl ⟨by first | (simp; omega) | (simp [*]; omega) | simp [*], MM⟩
    · repeat (first | refine GD ?_ | refine NW fun _ => ?_)
      exact ret1 rfl ⟨by first | (simp; omega) | (simp [*]; omega) | simp [*], MM⟩
theorem encR_eq (seq kind block num : Int) (data : ByteArray) : encR (seq, kind, block, data, num) = [.int .i64 seq, .int .i64 kind, .int .i64 block, .string data, .int .i64 num] := rfl
set_option maxHeartbeats 4000000 in
set_option maxRecDepth 10000 in
theorem qbytes_ro (gen : Int) (r : Rec) (hr : RightR r) : RO G 45 [.int .i64 gen, .agg (encR r).toArray] (fun _ => True) (.string (ba (sectorM (bodyM gen r)))) := by
  refine RO.enter Tryd.func45 rfl (by decide) rfl Tryd.ntmps45 rfl (fun A hu hA => ?_) (fun _ _ _ h => h)
  have hbl := bodyM_len (gen := gen) hr
  obtain ⟨seq, kind, block, data, num⟩ := r
  rw [encR_eq]
  have hg9 := numB_nine gen
  have hs9 := numB_nine seq
  have hk9 := numB_nine kind
  have hgz := ba_size (numB (clampN gen))
  have hsz := ba_size (numB (clampN seq))
  have hkz := ba_size (numB (clampN kind))
  repeat (first | refine GO ?_ | refine NW fun _ => ?_)
  rename_i q
  refine RD 10 11 (_) ?_
  refine WW 0 ?_
  refine WW 2 ?_; refine WW 3 ?_
  refine WW 6 ?_; refine WW 7 ?_
  refine WH.only 1 rfl rfl (by kernel_rfl) rfl (OP.callRO rfl rfl (qnumber_ro gen) (fun _ _ => trivial) rfl rfl ⟨fun _ => II, ?_⟩)
  refine WH.only 4 rfl rfl (by kernel_rfl) rfl (OP.callRO rfl rfl (qnumber_ro seq) (fun _ _ => trivial) rfl rfl ⟨fun _ => II, ?_⟩)
  refine WW 5 ?_
  rw [ba_app]
  generalize hp1 : numB (clampN gen) ++ numB (clampN seq) = p1
  have hp1l : p1.length ≤ 18 := by rw [← hp1, List.length_append]; omega
  have hp1z := ba_size p1
  refine WH.only 8 rfl rfl (by kernel_rfl) rfl (OP.callRO rfl rfl (qnumber_ro kind) (fun _ _ => trivial) rfl rfl ⟨fun _ => II, ?_⟩)
  refine WW 9 ?_
  rw [ba_app]
  refine WW 10 ?_
  refine DN ?_
  generalize hp2 : p1 ++ numB (clampN kind) = p2
  have hp2l : p2.length ≤ 27 := by rw [← hp2, List.length_append]; omega
  have hp2z := ba_size p2
  by_cases h1 : kind = 1
  · have hb : data.size ≤ 16 := by
      have h2 := hr.2
      dsimp only at h2
      rcases h2 with h2 | h2
      · omega
      · exact h2.2.2.1
    have hb9 := numB_nine block
    have hbz := ba_size (numB (clampN block))
    have htz := ba_size (textB data)
    have htl : (textB data).length ≤ 26 := by
      have := numB_nine data.size
      rw [clamp_nat data.size (by unfold widest; omega)] at this
      have h7 : data.data.toList.length = data.size := Array.length_toList
      unfold textB
      rw [List.length_append]
      omega
    repeat (first | refine GD ?_ | refine NW fun _ => ?_)
    refine RD 9 10 (_) ?_
    refine WW 0 ?_; refine WW 1 ?_; refine WW 2 ?_
    refine WW 5 ?_; refine WW 6 ?_
    refine WH.only 3 rfl rfl (by kernel_rfl) rfl (OP.callRO rfl rfl (qnumber_ro block) (fun _ _ => trivial) rfl rfl ⟨fun _ => II, ?_⟩)
    refine WW 4 ?_
    rw [ba_app]
    generalize hp3 : p2 ++ numB (clampN block) = p3
    have hp3l : p3.length ≤ 36 := by rw [← hp3, List.length_append]; omega
    have hp3z := ba_size p3
    refine WH.only 7 rfl rfl (by kernel_rfl) rfl (OP.callRO rfl rfl (qtext_ro data (by omega)) (fun _ _ => trivial) rfl rfl ⟨fun _ => II, ?_⟩)
    refine WW 8 ?_
    rw [ba_app]
    refine WW 9 ?_
    refine DN ?_
    have hbody : p3 ++ textB data = bodyM gen (seq, kind, block, data, num) := by
      unfold bodyM
      dsimp only
      rw [if_pos h1, ← hp3, ← hp2, ← hp1]
      simp only [List.append_assoc]
    rw [hbody]
    repeat (first | refine GD ?_ | refine NW fun _ => ?_)
    refine WL.step rfl (OP.callRO rfl rfl (qsector_ro _ hbl) (fun _ _ => trivial) rfl rfl ?_)
    repeat (first | refine GD ?_ | refine NW fun _ => ?_)
    exact ret1 rfl ⟨rfl, MM⟩
  · have hn9 := numB_nine num
    have hnz := ba_size (numB (clampN num))
    repeat (first | refine GD ?_ | refine NW fun _ => ?_)
    refine WL.step rfl (OP.callRO rfl rfl (qnumber_ro num) (fun _ _ => trivial) rfl rfl ?_)
    repeat (first | refine GD ?_ | refine NW fun _ => ?_)
    rw [ba_app]
    have hbody : p2 ++ numB (clampN num) = bodyM gen (seq, kind, block, data, num) := by
      unfold bodyM
      dsimp only
      rw [if_neg h1, ← hp2, ← hp1]
    rw [hbody]
    refine WL.step rfl (OP.callRO rfl rfl (qsector_ro _ hbl) (fun _ _ => trivial) rfl rfl ?_)
    repeat (first | refine GD ?_ | refine NW fun _ => ?_)
    exact ret1 rfl ⟨rfl, MM⟩
end Go.Proofs.YtkoakmaihcheaabDoor
/- Contracts of functions of the given program, and plain laws on what they compute: parts of the proofs of laws. -/

namespace Go.Proofs.YtkoakmaihcheaabDoor
open Go Go.GL

def bV (b : Bool) : Value := .int .i64 (bI b)
def ints4 (f : List Bool) : List Value := f.map bV
def refR (p : Nat) (a : Option Addr) (cap : Nat) (f : List Bool) (ch : List Ch) : Assn := fun h => cellsAt p 0 (ints4 f ++ [.slice a ch.length cap]) h ∧ readS a ch.length 3 (encL ch) h
theorem up_refR (p : Nat) (a : Option Addr) (cap : Nat) (f : List Bool) (ch : List Ch) : Up (refR p a cap f ch) := up_and (up_cellsAt _ _ _) (up_readS _ _ _ _)
def refL (p : Nat) (a : Option Addr) (n cap : Nat) (f : List Bool) (ch : List Ch) : List Assn := [blk p (ints4 f ++ [.slice a n cap]) 91, ownS a n cap 94 3 (encL ch)]
set_option maxRecDepth 10000 in
theorem qin_ro (v : Int) : RO G 47 [.int .i64 v] (fun _ => True) (.bool (decide (0 ≤ v ∧ v < 4))) := by
  refine RO.enter Tryd.func47 rfl (by decide) rfl Tryd.ntmps47 rfl (fun A _ hA => ?_) (fun _ _ _ h => h)
  by_cases h0 : 0 ≤ v
  · by_cases h3 : v ≤ 3
    · repeat (first | refine GD ?_ | refine NW fun _ => ?_)
      exact ret1 rfl ⟨congrArg Value.bool (decide_eq_true (⟨h0, by omega⟩ : 0 ≤ v ∧ v < 4)).symm, MM⟩
    · repeat (first | refine GD ?_ | refine NW fun _ => ?_)
      exact ret1 rfl ⟨congrArg Value.bool (decide_eq_false (fun h : 0 ≤ v ∧ v < 4 => by omega)).symm, MM⟩
  · repeat (first | refine GD ?_ | refine NW fun _ => ?_)
    exact ret1 rfl ⟨congrArg Value.bool (decide_eq_false (fun h : 0 ≤ v ∧ v < 4 => by omega)).symm, MM⟩
def QNewPost (l : List Int) (v : Value) (E : List Assn) : Prop :=
  match newM l [false, false, false, false] with
  | .ok f => ∃ p, v = .tuple #[.pointer (some ⟨p, 0, none⟩), .int .i64 0, .int .i64 0] ∧ E = [blk p (ints4 f ++ [.slice none 0 0]) 91]
  | .error (at_, c) => v = .tuple #[.pointer none, .int .i64 at_, .int .i64 c] ∧ E = []

set_option maxHeartbeats 4000000 in
set_option maxRecDepth 10000 in
theorem qnew_ok (a : Option Addr) (n c : Nat) (l : List Int) (hn : n < 1000000) : RT G 23 [.slice a n c] (readS a n 1 (l.map vI)) (QNewPost l) := by
  refine RT.enter Tryd.func23 rfl (by decide) rfl Tryd.ntmps23 rfl (fun A hu hA => ?_)
  have hM : ∀ {L}, A ∈ L → Ent L (readS a n 1 (l.map vI)) := fun m => Ent.mem m hu hA
  refine WC.fact (Ent.len (hM MM)) (fun hlen => ?_)
  have hlen : l.length = n := by simpa using hlen
  repeat (first | refine GO ?_ | refine NW fun _ => ?_)
  rename_i p
  refine WC.loop (σ := Nat × List Bool) (fun s => s.1 ≤ n ∧ s.2.length = 4 ∧ newM (l.drop s.1) s.2 = newM l [false, false, false, false])
    (fun s => [(0, .val (.slice a n c)), (5, .val (.pointer (some ⟨p, 0, none⟩))), (10, .val (.int .i64 n)), (11, .val (.int .i64 s.1))])
    (fun s => [blk p (ints4 s.2 ++ [.slice none 0 0]) 91, A]) (fun s => n - s.1) (0, [false, false, false, false]) ⟨Nat.zero_le _, rfl, rfl⟩ ⟨rfl, rfl, rfl, rfl, trivial⟩ (Imp.refl _) ?_
  rintro ⟨k, f⟩ ⟨hk, hf, hm⟩
  dsimp only at hk hf hm ⊢
  obtain ⟨f0, f1, f2, f3, rfl⟩ := four hf
  by_cases hb : k < n
  rotate_left
  · have hb : k = n := by omega
    subst hb
    repeat (first | refine GD ?_ | refine NW fun _ => ?_)
    refine ret3 rfl rfl rfl ⟨[_], ?_, II⟩
    unfold QNewPost
    rw [← hm, List.drop_eq_nil_of_le (by omega)]
    exact ⟨_, rfl, rfl⟩
  have hlk : k < l.length := by omega
  have hdrop : l.drop k = l[k] :: l.drop (k + 1) := List.drop_eq_getElem_cons hlk
  have hel : (l.map vI)[k * 1]? = some (.int .i64 l[k]) := by simp [vI, hlk]
  generalize l[k] = v at *
  rw [hdrop, newM_cons] at hm
  repeat (first | refine GD ?_ | refine NW fun _ => ?_)
  refine WL.fact (Ent.some (hM MM) (by omega)) ?_
  rintro ⟨b, off, rfl⟩
  repeat (first | refine GD ?_ | refine NW fun _ => ?_)
  refine WL.step rfl (OP.load1 (v := .int .i64 v) rfl rfl rfl rfl (Ent.elem (hM MM) rfl hel) rfl rfl ?_)
  repeat (first | refine GD ?_ | refine NW fun _ => ?_)
  refine WL.step rfl (OP.callRO rfl rfl (qin_ro _) (fun _ _ => trivial) rfl rfl ?_)
  by_cases h1 : 0 ≤ v ∧ v < 4
  rotate_left
  · rw [decide_eq_false h1]
    rw [if_neg h1] at hm
    repeat (first | refine GD ?_ | refine NW fun _ => ?_)
    refine RD 7 7 ([A]) ?_
    refine WW 0 ?_; refine WW 1 ?_; refine WW 2 ?_
    refine VL 3 (.int .i64 v) rfl rfl rfl rfl (.inl ⟨rfl, Ent.elem (i := k * 1) (hM MM) rfl hel⟩) ?_
    refine WW 4 ?_; refine WW 5 ?_; refine WW 6 ?_
    refine DN ?_
    repeat (first | refine GD ?_ | refine NW fun _ => ?_)
    refine ret3 rfl rfl rfl ⟨[], ?_, II⟩
    unfold QNewPost
    rw [← hm]
    exact ⟨rfl, rfl⟩
  rw [decide_eq_true h1]
  rw [if_pos h1] at hm
  obtain rfl | rfl | rfl | rfl : v = 0 ∨ v = 1 ∨ v = 2 ∨ v = 3 := by omega
  · repeat (first | refine GD ?_ | refine NW fun _ => ?_)
    refine RD 10 10 ([blk p (ints4 [f0, f1, f2, f3] ++ [.slice none 0 0]) 91, A]) ?_
    refine WW 0 ?_; refine WW 1 ?_; refine WW 2 ?_; refine WW 3 ?_
    refine VL 4 (.int .i64 0) rfl rfl rfl rfl (.inl ⟨rfl, Ent.elem (i := k * 1) (hM MM) rfl hel⟩) ?_
    refine WW 5 ?_; refine WW 6 ?_; refine WW 7 ?_; refine WW 8 ?_; refine WW 9 ?_
    refine DN ?_
    cases f0
    · replace hm := hm.symm.trans (if_neg (by simp))
      repeat (first | refine GD ?_ | refine NW fun _ => ?_)
      refine RD 8 9 ([A]) ?_
      refine WW 0 ?_; refine WW 1 ?_; refine WW 2 ?_; refine WW 3 ?_
      refine VL 4 (.int .i64 0) rfl rfl rfl rfl (.inl ⟨rfl, Ent.elem (i := k * 1) (hM MM) rfl hel⟩) ?_
      refine WW 5 ?_; refine WW 6 ?_; refine WW 7 ?_
      refine WH.only 8 rfl rfl (by kernel_rfl) rfl (OP.store rfl rfl rfl rfl rfl rfl rfl UP rfl ⟨(fun h => nomatch h), ?_⟩)
      refine DN ?_
      repeat (first | refine GD ?_ | refine NW fun _ => ?_)
      exact ⟨(k + 1, _), ⟨by omega, rfl, hm.symm⟩, by dsimp only; omega, ⟨rfl, rfl, rfl, rfl, trivial⟩, Imp.refl _⟩
    · replace hm := hm.symm.trans (if_pos rfl)
      repeat (first | refine GD ?_ | refine NW fun _ => ?_)
      refine RD 7 7 ([A]) ?_
      refine WW 0 ?_; refine WW 1 ?_; refine WW 2 ?_
      refine VL 3 (.int .i64 0) rfl rfl rfl rfl (.inl ⟨rfl, Ent.elem (i := k * 1) (hM MM) rfl hel⟩) ?_
      refine WW 4 ?_; refine WW 5 ?_; refine WW 6 ?_
      refine DN ?_
      repeat (first | refine GD ?_ | refine NW fun _ => ?_)
      refine ret3 rfl rfl rfl ⟨[], ?_, II⟩
      unfold QNewPost
      rw [hm]
      exact ⟨rfl, rfl⟩
  · repeat (first | refine GD ?_ | refine NW fun _ => ?_)
    refine RD 10 10 ([blk p (ints4 [f0, f1, f2, f3] ++ [.slice none 0 0]) 91, A]) ?_
    refine WW 0 ?_; refine WW 1 ?_; refine WW 2 ?_; refine WW 3 ?_
    refine VL 4 (.int .i64 1) rfl rfl rfl rfl (.inl ⟨rfl, Ent.elem (i := k * 1) (hM MM) rfl hel⟩) ?_
    refine WW 5 ?_; refine WW 6 ?_; refine WW 7 ?_; refine WW 8 ?_; refine WW 9 ?_
    refine DN ?_
    cases f1
    · replace hm := hm.symm.trans (if_neg (by simp))
      repeat (first | refine GD ?_ | refine NW fun _ => ?_)
      refine RD 8 9 ([A]) ?_
      refine WW 0 ?_; refine WW 1 ?_; refine WW 2 ?_; refine WW 3 ?_
      refine VL 4 (.int .i64 1) rfl rfl rfl rfl (.inl ⟨rfl, Ent.elem (i := k * 1) (hM MM) rfl hel⟩) ?_
      refine WW 5 ?_; refine WW 6 ?_; refine WW 7 ?_
      refine WH.only 8 rfl rfl (by kernel_rfl) rfl (OP.store rfl rfl rfl rfl rfl rfl rfl UP rfl ⟨(fun h => nomatch h), ?_⟩)
      refine DN ?_
      repeat (first | refine GD ?_ | refine NW fun _ => ?_)
      exact ⟨(k + 1, _), ⟨by omega, rfl, hm.symm⟩, by dsimp only; omega, ⟨rfl, rfl, rfl, rfl, trivial⟩, Imp.refl _⟩
    · replace hm := hm.symm.trans (if_pos rfl)
      repeat (first | refine GD ?_ | refine NW fun _ => ?_)
      refine RD 7 7 ([A]) ?_
      refine WW 0 ?_; refine WW 1 ?_; refine WW 2 ?_
      refine VL 3 (.int .i64 1) rfl rfl rfl rfl (.inl ⟨rfl, Ent.elem (i := k * 1) (hM MM) rfl hel⟩) ?_
      refine WW 4 ?_; refine WW 5 ?_; refine WW 6 ?_
      refine DN ?_
      repeat (first | refine GD ?_ | refine NW fun _ => ?_)
      refine ret3 rfl rfl rfl ⟨[], ?_, II⟩
      unfold QNewPost
      rw [hm]
      exact ⟨rfl, rfl⟩
  · repeat (first | refine GD ?_ | refine NW fun _ => ?_)
    refine RD 10 10 ([blk p (ints4 [f0, f1, f2, f3] ++ [.slice none 0 0]) 91, A]) ?_
    refine WW 0 ?_; refine WW 1 ?_; refine WW 2 ?_; refine WW 3 ?_
    refine VL 4 (.int .i64 2) rfl rfl rfl rfl (.inl ⟨rfl, Ent.elem (i := k * 1) (hM MM) rfl hel⟩) ?_
    refine WW 5 ?_; refine WW 6 ?_; refine WW 7 ?_; refine WW 8 ?_; refine WW 9 ?_
    refine DN ?_
    cases f2
    · replace hm := hm.symm.trans (if_neg (by simp))
      repeat (first | refine GD ?_ | refine NW fun _ => ?_)
      refine RD 8 9 ([A]) ?_
      refine WW 0 ?_; refine WW 1 ?_; refine WW 2 ?_; refine WW 3 ?_
      refine VL 4 (.int .i64 2) rfl rfl rfl rfl (.inl ⟨rfl, Ent.elem (i := k * 1) (hM MM) rfl hel⟩) ?_
      refine WW 5 ?_; refine WW 6 ?_; refine WW 7 ?_
      refine WH.only 8 rfl rfl (by kernel_rfl) rfl (OP.store rfl rfl rfl rfl rfl rfl rfl UP rfl ⟨(fun h => nomatch h), ?_⟩)
      refine DN ?_
      repeat (first | refine GD ?_ | refine NW fun _ => ?_)
      exact ⟨(k + 1, _), ⟨by omega, rfl, hm.symm⟩, by dsimp only; omega, ⟨rfl, rfl, rfl, rfl, trivial⟩, Imp.refl _⟩
    · replace hm := hm.symm.trans (if_pos rfl)
      repeat (first | refine GD ?_ | refine NW fun _ => ?_)
      refine RD 7 7 ([A]) ?_
      refine WW 0 ?_; refine WW 1 ?_; refine WW 2 ?_
      refine VL 3 (.int .i64 2) rfl rfl rfl rfl (.inl ⟨rfl, Ent.elem (i := k * 1) (hM MM) rfl hel⟩) ?_
      refine WW 4 ?_; refine WW 5 ?_; refine WW 6 ?_
      refine DN ?_
      repeat (first | refine GD ?_ | refine NW fun _ => ?_)
      refine ret3 rfl rfl rfl ⟨[], ?_, II⟩
      unfold QNewPost
      rw [hm]
      exact ⟨rfl, rfl⟩
  · repeat (first | refine GD ?_ | refine NW fun _ => ?_)
    refine RD 10 10 ([blk p (ints4 [f0, f1, f2, f3] ++ [.slice none 0 0]) 91, A]) ?_
    refine WW 0 ?_; refine WW 1 ?_; refine WW 2 ?_; refine WW 3 ?_
    refine VL 4 (.int .i64 3) rfl rfl rfl rfl (.inl ⟨rfl, Ent.elem (i := k * 1) (hM MM) rfl hel⟩) ?_
    refine WW 5 ?_; refine WW 6 ?_; refine WW 7 ?_; refine WW 8 ?_; refine WW 9 ?_
    refine DN ?_
    cases f3
    · replace hm := hm.symm.trans (if_neg (by simp))
      repeat (first | refine GD ?_ | refine NW fun _ => ?_)
      refine RD 8 9 ([A]) ?_
      refine WW 0 ?_; refine WW 1 ?_; refine WW 2 ?_; refine WW 3 ?_
      refine VL 4 (.int .i64 3) rfl rfl rfl rfl (.inl ⟨rfl, Ent.elem (i := k * 1) (hM MM) rfl hel⟩) ?_
      refine WW 5 ?_; refine WW 6 ?_; refine WW 7 ?_
      refine WH.only 8 rfl rfl (by kernel_rfl) rfl (OP.store rfl rfl rfl rfl rfl rfl rfl UP rfl ⟨(fun h => nomatch h), ?_⟩)
      refine DN ?_
      repeat (first | refine GD ?_ | refine NW fun _ => ?_)
      exact ⟨(k + 1, _), ⟨by omega, rfl, hm.symm⟩, by dsimp only; omega, ⟨rfl, rfl, rfl, rfl, trivial⟩, Imp.refl _⟩
    · replace hm := hm.symm.trans (if_pos rfl)
      repeat (first | refine GD ?_ | refine NW fun _ => ?_)
      refine RD 7 7 ([A]) ?_
      refine WW 0 ?_; refine WW 1 ?_; refine WW 2 ?_
      refine VL 3 (.int .i64 3) rfl rfl rfl rfl (.inl ⟨rfl, Ent.elem (i := k * 1) (hM MM) rfl hel⟩) ?_
      refine WW 4 ?_; refine WW 5 ?_; refine WW 6 ?_
      refine DN ?_
      repeat (first | refine GD ?_ | refine NW fun _ => ?_)
      refine ret3 rfl rfl rfl ⟨[], ?_, II⟩
      unfold QNewPost
      rw [hm]
      exact ⟨rfl, rfl⟩
set_option maxHeartbeats 1000000 in
set_option maxRecDepth 10000 in
theorem qlast_ro (p : Nat) (a : Option Addr) (cap : Nat) (f : List Bool) (ch : List Ch) (hf : f.length = 4) (hs : ch.length < 1000000) :
    RO G 28 [.pointer (some ⟨p, 0, none⟩)] (refR p a cap f ch) (.int .i64 (lastM ch)) := by
  refine RO.enter Tryd.func28 rfl (by decide) rfl Tryd.ntmps28 rfl (fun A hu hA => ?_) (up_refR _ _ _ _ _)
  have hE1 : ∀ {L}, A ∈ L → Ent L (cellsAt p 0 (ints4 f ++ [.slice a ch.length cap])) := fun m => Ent.mem m hu fun k x => (hA k x).1
  have hE2 : ∀ {L}, A ∈ L → Ent L (readS a ch.length 3 (encL ch)) := fun m => Ent.mem m hu fun k x => (hA k x).2
  have hg : (ints4 f ++ [Value.slice a ch.length cap])[4]? = some (.slice a ch.length cap) := by
    obtain ⟨f0, f1, f2, f3, rfl⟩ := four hf; rfl
  repeat (first | refine GO ?_ | refine NW fun _ => ?_)
  refine WL.step rfl (OP.load1 (v := .slice a ch.length cap) rfl rfl rfl rfl (Ent.one (i := 4) (hE1 MM) hg) rfl rfl ?_)
  by_cases h0 : ch.length = 0
  · repeat (first | refine GD ?_ | refine NW fun _ => ?_)
    have : ch = [] := List.length_eq_zero_iff.1 h0
    subst this
    exact ret1 rfl ⟨rfl, MM⟩
  · repeat (first | refine GD ?_ | refine NW fun _ => ?_)
    refine WC.fact (Ent.some (hE2 MM) (by omega)) ?_
    rintro ⟨b, off, rfl⟩
    refine RD 14 14 ([A]) ?_
    refine WW 0 ?_; refine WW 1 ?_; refine WW 2 ?_
    refine VL 3 (.slice (some ⟨b, off, none⟩) ch.length cap) rfl rfl rfl rfl (.inl ⟨rfl, Ent.one (i := 4) (hE1 MM) hg⟩) ?_
    refine WW 4 ?_; refine WW 5 ?_; refine WW 6 ?_
    refine VL 7 (.slice (some ⟨b, off, none⟩) ch.length cap) rfl rfl rfl rfl (.inl ⟨rfl, Ent.one (i := 4) (hE1 MM) hg⟩) ?_
    refine WW 8 ?_; refine WW 9 ?_; refine WW 10 ?_; refine WW 11 ?_
    refine VL 12 (.int .i64 (ch[ch.length - 1]'(by omega)).1) rfl rfl rfl rfl (.inl ⟨rfl, by rw [show ((ch.length : Int) - 1).toNat = ch.length - 1 from by omega]; exact Ent.elem (i := (ch.length - 1) * 3 + 0) (hE2 MM) rfl (encL_get _ _ _ (by omega) (by decide))⟩) ?_
    refine WW 13 ?_
    refine DN ?_
    repeat (first | refine GO ?_ | refine NW fun _ => ?_)
    refine ret1 rfl ⟨?_, MM⟩
    unfold lastM
    rw [List.getLast?_eq_getElem?, List.getElem?_eq_getElem (by omega)]
set_option maxHeartbeats 2000000 in
set_option maxRecDepth 10000 in
theorem qhas_ro (p : Nat) (a : Option Addr) (cap : Nat) (f : List Bool) (ch : List Ch) (v m : Int) (hf : f.length = 4) (hv : 0 ≤ v ∧ v < 4) (hs : ch.length < 1000000) :
    RO G 49 [.pointer (some ⟨p, 0, none⟩), .int .i64 v, .int .i64 m] (refR p a cap f ch) (.bool (hasQ f ch v m)) := by
  refine RO.enter Tryd.func49 rfl (by decide) rfl Tryd.ntmps49 rfl (fun A hu hA => ?_) (up_refR _ _ _ _ _)
  have hE1 : ∀ {L}, A ∈ L → Ent L (cellsAt p 0 (ints4 f ++ [.slice a ch.length cap])) := fun m => Ent.mem m hu fun k x => (hA k x).1
  have hE2 : ∀ {L}, A ∈ L → Ent L (readS a ch.length 3 (encL ch)) := fun m => Ent.mem m hu fun k x => (hA k x).2
  have hg : (ints4 f ++ [Value.slice a ch.length cap])[4]? = some (.slice a ch.length cap) := by
    obtain ⟨f0, f1, f2, f3, rfl⟩ := four hf; rfl
  have hgv : (ints4 f ++ [Value.slice a ch.length cap])[v.toNat]? = some (bV (f.getD v.toNat false)) := by
    obtain ⟨f0, f1, f2, f3, rfl⟩ := four hf
    obtain rfl | rfl | rfl | rfl : v = 0 ∨ v = 1 ∨ v = 2 ∨ v = 3 := by omega
    all_goals rfl
  obtain ⟨hv0, hv1⟩ := hv
  repeat (first | refine GO ?_ | refine NW fun _ => ?_)
  refine WL.step rfl (OP.load1 (v := bV (f.getD v.toNat false)) rfl rfl rfl rfl (by rw [show 0 + 0 + v.toNat * 1 = 0 + v.toNat by omega]; exact Ent.one (i := v.toNat) (hE1 MM) hgv) rfl rfl ?_)
  have hdec : decide (bI (f.getD v.toNat false) = 1) = f.getD v.toNat false := by cases f.getD v.toNat false <;> rfl
  unfold bV
  repeat (first | refine GO ?_ | refine NW fun _ => ?_)
  rw [hdec]
  refine WL.step rfl (OP.load1 (v := .slice a ch.length cap) rfl rfl rfl rfl (Ent.one (i := 4) (hE1 MM) hg) rfl rfl ?_)
  repeat (first | refine GO ?_ | refine NW fun _ => ?_)
  refine WC.loop (σ := Nat) (fun k => k ≤ ch.length)
    (fun k => [(0, .val (.pointer (some ⟨p, 0, none⟩))), (1, .val (.int .i64 v)), (2, .val (.int .i64 m)), (7, .val (.bool (hasQ f (ch.take k) v m))), (20, .val (.int .i64 ch.length)), (21, .val (.int .i64 k))])
    (fun _ => [A]) (fun k => ch.length - k) 0 (Nat.zero_le _) ⟨rfl, rfl, rfl, rfl, rfl, rfl, trivial⟩ (Imp.refl _) ?_
  rintro k hk
  by_cases hlt : k < ch.length
  rotate_left
  · rw [List.take_of_length_le (by omega)]
    repeat (first | refine GD ?_ | refine NW fun _ => ?_)
    exact ret1 rfl ⟨rfl, MM⟩
  have hsn := hasQ_snoc f (ch.take k) ch[k] v m
  rw [← List.take_succ_eq_append_getElem hlt] at hsn
  have hge : ∀ j, j < 3 → (encL ch)[k * 3 + j]? = (encC ch[k])[j]? := fun j hj => encL_get _ _ _ hlt hj
  generalize ch[k] = c at *
  obtain ⟨cm, cv, cg⟩ := c
  dsimp only at hsn
  repeat (first | refine GD ?_ | refine NW fun _ => ?_)
  refine WL.step rfl (OP.load1 (v := .slice a ch.length cap) rfl rfl rfl rfl (Ent.one (i := 4) (hE1 MM) hg) rfl rfl ?_)
  refine WL.fact (Ent.some (hE2 MM) (by omega)) ?_
  rintro ⟨b, off, rfl⟩
  repeat (first | refine GD ?_ | refine NW fun _ => ?_)
  refine WL.step rfl (OP.load1 (v := .int .i64 cv) rfl rfl rfl rfl (Ent.elem (i := k * 3 + 1) (hE2 MM) rfl (hge 1 (by decide))) rfl rfl ?_)
  by_cases h1 : cv = v
  rotate_left
  · rw [if_neg (fun h => h1 h.1)] at hsn
    repeat (first | refine GD ?_ | refine NW fun _ => ?_)
    exact ⟨k + 1, by omega, by omega, ⟨rfl, rfl, rfl, by rw [hsn]; rfl, rfl, rfl, trivial⟩, Imp.refl _⟩
  repeat (first | refine GD ?_ | refine NW fun _ => ?_)
  refine WL.guardT rfl rfl rfl rfl (OP.load1 (v := .slice (some ⟨b, off, none⟩) ch.length cap) rfl rfl rfl rfl (Ent.one (i := 4) (hE1 MM) hg) rfl rfl ?_)
  repeat (first | refine GD ?_ | refine NW fun _ => ?_)
  refine WL.guardT rfl rfl rfl rfl (OP.load1 (v := .int .i64 cm) rfl rfl rfl rfl (Ent.elem (i := k * 3 + 0) (hE2 MM) rfl (hge 0 (by decide))) rfl rfl ?_)
  by_cases h2 : cm ≤ m
  rotate_left
  · rw [if_neg (fun h => h2 h.2)] at hsn
    repeat (first | refine GD ?_ | refine NW fun _ => ?_)
    exact ⟨k + 1, by omega, by omega, ⟨rfl, rfl, rfl, by rw [hsn]; rfl, rfl, rfl, trivial⟩, Imp.refl _⟩
  rw [if_pos ⟨h1, h2⟩] at hsn
  repeat (first | refine GD ?_ | refine NW fun _ => ?_)
  refine WL.step rfl (OP.load1 (v := .slice (some ⟨b, off, none⟩) ch.length cap) rfl rfl rfl rfl (Ent.one (i := 4) (hE1 MM) hg) rfl rfl ?_)
  repeat (first | refine GD ?_ | refine NW fun _ => ?_)
  refine WL.step rfl (OP.load1 (v := .bool cg) rfl rfl rfl rfl (Ent.elem (i := k * 3 + 2) (hE2 MM) rfl (hge 2 (by decide))) rfl rfl ?_)
  repeat (first | refine GD ?_ | refine NW fun _ => ?_)
  exact ⟨k + 1, by omega, by omega, ⟨rfl, rfl, rfl, by rw [hsn]; rfl, rfl, rfl, trivial⟩, Imp.refl _⟩
end Go.Proofs.YtkoakmaihcheaabDoor
/- Contracts of functions of the given program, and plain laws on what they compute: parts of the proofs of laws. -/

namespace Go.Proofs.YtkoakmaihcheaabDoor
open Go Go.GL

set_option maxHeartbeats 1000000 in
set_option maxRecDepth 10000 in
theorem qat_ok (p : Nat) (a : Option Addr) (cap : Nat) (f : List Bool) (ch : List Ch) (m : Int) (hf : f.length = 4) (hs : ch.length < 1000000) :
    RT G 29 [.pointer (some ⟨p, 0, none⟩), .int .i64 m] (refR p a cap f ch) (Ints (listQ f ch m 4)) := by
  refine RT.enter Tryd.func29 rfl (by decide) rfl Tryd.ntmps29 rfl (fun A hu hA => ?_)
  have hER : ∀ {L}, A ∈ L → Ent L (refR p a cap f ch) := fun m => Ent.mem m hu hA
  repeat (first | refine GO ?_ | refine NW fun _ => ?_)
  refine WC.imp (Imp.nilS 3 1) ?_
  refine WC.loop (σ := Nat × Nat × Option Addr × Nat × List Int) (fun s => s.1 ≤ 4 ∧ s.2.2.2.2 = listQ f ch m s.1 ∧ s.2.1 = s.2.2.2.2.length ∧ s.2.1 ≤ s.1)
    (fun s => [(0, .val (.pointer (some ⟨p, 0, none⟩))), (1, .val (.int .i64 m)), (5, .val (.slice s.2.2.1 s.2.1 s.2.2.2.1)), (6, .val (.int .i64 s.1))])
    (fun s => [ownS s.2.2.1 s.2.1 s.2.2.2.1 3 1 (s.2.2.2.2.map vI), A]) (fun s => 4 - s.1) (0, 0, none, 0, []) ⟨by simp, rfl, rfl, Nat.le_refl _⟩ ⟨rfl, rfl, rfl, rfl, trivial⟩ (Imp.refl _) ?_
  rintro ⟨k, n, a1, cap1, l⟩ ⟨hk, hl, hn, hnk⟩
  dsimp only at hk hl hn hnk ⊢
  by_cases h4 : k < 4
  rotate_left
  · have : k = 4 := by omega
    subst this
    repeat (first | refine GD ?_ | refine NW fun _ => ?_)
    exact ret1 rfl ⟨[_], ⟨a1, cap1, by rw [hn, hl], by rw [hn, hl]⟩, Imp.refl _⟩
  have hsucc := listQ_succ f ch m k
  rw [← hl] at hsucc
  repeat (first | refine GD ?_ | refine NW fun _ => ?_)
  refine WL.step rfl (OP.callRO rfl rfl (qhas_ro p a cap f ch k m hf ⟨by omega, by omega⟩ hs) (hER MM) rfl rfl ?_)
  cases hq : hasQ f ch k m
  · rw [hq, if_neg (by simp)] at hsucc
    repeat (first | refine GD ?_ | refine NW fun _ => ?_)
    exact ⟨(k + 1, n, a1, cap1, l), ⟨by dsimp only; omega, hsucc.symm, hn, by dsimp only; omega⟩, by dsimp only; omega, ⟨rfl, rfl, rfl, rfl, trivial⟩, Imp.refl _⟩
  · rw [hq, if_pos rfl] at hsucc
    repeat (first | refine GD ?_ | refine NW fun _ => ?_)
    refine WL.step rfl (OP.append rfl rfl rfl rfl rfl rfl rfl rfl rfl P1 (Ent.own MM) rfl (by omega) (by omega) rfl rfl (fun a' cap' => ?_))
    repeat (first | refine GD ?_ | refine NW fun _ => ?_)
    exact ⟨(k + 1, n + 1, a', cap', l ++ [(k : Int)]), ⟨by dsimp only; omega, hsucc.symm, by simp [hn], by dsimp only; omega⟩, by dsimp only; omega, ⟨rfl, rfl, rfl, rfl, trivial⟩, by rw [List.map_append]; exact II⟩
def QChPost (p : Nat) (a : Option Addr) (cap : Nat) (f : List Bool) (ch : List Ch) (c : Ch) (v : Value) (M : List Assn) : Prop :=
  match putM f ch c with
  | some code => v = .int .i64 code ∧ M = refL p a ch.length cap f ch
  | none => v = .int .i64 0 ∧ ∃ a' cap', M = refL p a' (ch.length + 1) cap' f (ch ++ [c])
set_option maxHeartbeats 4000000 in
set_option maxRecDepth 10000 in
theorem qchange_ok (p : Nat) (a : Option Addr) (cap : Nat) (f : List Bool) (ch : List Ch) (v m : Int) (g : Bool) (hf : f.length = 4) (hi : Inc ch) (hv : Vols ch) (hs : ch.length ≤ 100) :
    Triple G 26 [.pointer (some ⟨p, 0, none⟩), .int .i64 v, .int .i64 m, .bool g] (refL p a ch.length cap f ch) (QChPost p a cap f ch (m, v, g)) := by
  refine Triple.enter Tryd.func26 rfl (by decide) rfl Tryd.ntmps26 rfl (fun F => ?_)
  have hR : ∀ {L}, blk p (ints4 f ++ [.slice a ch.length cap]) 91 ∈ L → ownS a ch.length cap 94 3 (encL ch) ∈ L → Ent L (refR p a cap f ch) := fun m1 m2 => Ent.and (Ent.whole m1) (Ent.own m2)
  refine WC.imp (M := [blk p (ints4 f ++ [.slice a ch.length cap]) 91, ownS a ch.length cap 94 3 (encL ch), F]) (Imp.refl _) ?_
  repeat (first | refine GO ?_ | refine NW fun _ => ?_)
  refine WL.step rfl (OP.callRO rfl rfl (qin_ro _) (fun _ _ => trivial) rfl rfl ?_)
  by_cases h1 : 0 ≤ v ∧ v < 4
  rotate_left
  · rw [decide_eq_false h1]
    repeat (first | refine GD ?_ | refine NW fun _ => ?_)
    refine ret1 rfl ⟨refL p a ch.length cap f ch, ?_, II⟩
    unfold QChPost putM
    rw [if_pos h1]
    exact ⟨rfl, rfl⟩
  rw [decide_eq_true h1]
  repeat (first | refine GD ?_ | refine NW fun _ => ?_)
  refine WL.step rfl (OP.callRO rfl rfl (qlast_ro p a cap f ch hf (by omega)) (hR MM MM) rfl rfl ?_)
  by_cases h2 : m ≤ lastM ch
  · repeat (first | refine GD ?_ | refine NW fun _ => ?_)
    refine ret1 rfl ⟨refL p a ch.length cap f ch, ?_, II⟩
    unfold QChPost putM
    rw [if_neg (not_not_intro h1), if_pos h2]
    exact ⟨rfl, rfl⟩
  by_cases h3 : 1152921504606846975 < m
  · repeat (first | refine GD ?_ | refine NW fun _ => ?_)
    refine ret1 rfl ⟨refL p a ch.length cap f ch, ?_, II⟩
    unfold QChPost putM
    rw [if_neg (not_not_intro h1), if_neg h2, if_pos h3]
    exact ⟨rfl, rfl⟩
  repeat (first | refine GD ?_ | refine NW fun _ => ?_)
  refine WL.step rfl (OP.callRO rfl rfl (qlast_ro p a cap f ch hf (by omega)) (hR MM MM) rfl rfl ?_)
  refine WL.step rfl (OP.callRO rfl rfl (qhas_ro p a cap f ch v (lastM ch) hf h1 (by omega)) (hR MM MM) rfl rfl ?_)
  have hq := hasQ_at (m := lastM ch) hi hv hf h1
  rw [atM_high hi.srt (Int.le_refl _)] at hq
  by_cases h4 : (after f ch).getD v.toNat false = g
  rotate_left
  · have h4' : hasQ f ch v (lastM ch) ≠ g := by rw [hq]; exact h4
    generalize hasQ f ch v (lastM ch) = x at *
    have hx : x = !g := by cases x <;> cases g <;> simp at h4' ⊢
    subst hx
    cases g
    all_goals
      repeat (first | refine GD ?_ | refine NW fun _ => ?_)
      refine ret1 rfl ⟨refL p a ch.length cap f ch, ?_, II⟩
      unfold QChPost putM
      rw [if_neg (not_not_intro h1), if_neg h2, if_neg h3, if_pos h4]
      exact ⟨rfl, rfl⟩
  rw [hq, h4]
  have hg4 : ∀ {L}, blk p (ints4 f ++ [.slice a ch.length cap]) 91 ∈ L → Ent L (cellAt p (0 + 4) (.slice a ch.length cap)) := fun m1 => Ent.blk m1 (by obtain ⟨f0, f1, f2, f3, rfl⟩ := four hf; rfl)
  obtain ⟨f0, f1, f2, f3, rfl⟩ := four hf
  have hbe : (g != g) = false := by cases g <;> rfl
  refine WL.step rfl ?_
  refine OP.pure (nw := true) rfl trivial rfl rfl ?_
  refine WL.step rfl ?_
  refine OP.pure (nw := true) rfl trivial rfl rfl ?_
  rw [show (!(g == g)) = false by cases g <;> rfl]
  by_cases h5 : ch.length = 100
  · repeat (first | refine GD ?_ | refine NW fun _ => ?_)
    refine ret1 rfl ⟨refL p a ch.length cap _ ch, ?_, II⟩
    unfold QChPost putM
    rw [if_neg (not_not_intro h1), if_neg h2, if_neg h3, if_neg (by simpa using h4), if_pos (by omega)]
    exact ⟨rfl, rfl⟩
  repeat (first | refine GD ?_ | refine NW fun _ => ?_)
  refine WL.step rfl (OP.append rfl rfl rfl rfl rfl rfl rfl rfl rfl P1 (Ent.own MM) rfl (by omega) (by omega) rfl rfl (fun a' cap' => ?_))
  repeat (first | refine GD ?_ | refine NW fun _ => ?_)
  refine ret1 rfl ⟨[blk p (ints4 [f0, f1, f2, f3] ++ [.slice a' (ch.length + 1) cap']) 91, ownS a' (ch.length + 1) cap' 94 3 (encL ch ++ encC (m, v, g))], ?_, II⟩
  unfold QChPost putM
  rw [if_neg (not_not_intro h1), if_neg h2, if_neg h3, if_neg (by simpa using h4), if_neg (by omega)]
  exact ⟨rfl, a', cap', by unfold refL; rw [encL_snoc]⟩
set_option maxHeartbeats 4000000 in
set_option maxRecDepth 10000 in
theorem qgbytes_ro (p : Nat) (a : Option Addr) (cap : Nat) (f : List Bool) (ch : List Ch) (hf : f.length = 4) (hv : Vols ch) (hs : ch.length ≤ 100) :
    RO G 31 [.pointer (some ⟨p, 0, none⟩)] (refR p a cap f ch) (.string (ba (bytesM f ch))) := by
  refine RO.enter Tryd.func31 rfl (by decide) rfl Tryd.ntmps31 rfl (fun A hu hA => ?_) (up_refR _ _ _ _ _)
  have hE1 : ∀ {L}, A ∈ L → Ent L (cellsAt p 0 (ints4 f ++ [.slice a ch.length cap])) := fun m => Ent.mem m hu fun k x => (hA k x).1
  have hE2 : ∀ {L}, A ∈ L → Ent L (readS a ch.length 3 (encL ch)) := fun m => Ent.mem m hu fun k x => (hA k x).2
  obtain ⟨f0, f1, f2, f3, rfl⟩ := four hf
  have hgi : ∀ i v, (ints4 [f0, f1, f2, f3] ++ [Value.slice a ch.length cap])[i]? = some v → ∀ {L}, A ∈ L → Ent L (cellAt p (0 + i) v) := fun i v h _ m => Ent.one (i := i) (hE1 m) h
  have hb : ∀ b, 0 ≤ bI b ∧ bI b ≤ 1 := fun b => by cases b <;> decide
  obtain ⟨hb00, hb01⟩ := hb f0
  obtain ⟨hb10, hb11⟩ := hb f1
  obtain ⟨hb20, hb21⟩ := hb f2
  obtain ⟨hb30, hb31⟩ := hb f3
  have hbits := bits_sum f0 f1 f2 f3
  repeat (first | refine GO ?_ | refine NW fun _ => ?_)
  refine RD 34 35 ([A]) ?_
  refine WW 0 ?_; refine WW 1 ?_; refine WW 2 ?_; refine WW 3 ?_
  refine VL 4 (.int .i64 (bI f0)) rfl rfl rfl rfl (.inl ⟨rfl, hgi 0 _ rfl MM⟩) ?_
  refine WW 5 ?_; refine WW 6 ?_; refine WW 7 ?_; refine WW 8 ?_
  refine VL 9 (.int .i64 (bI f1)) rfl rfl rfl rfl (.inl ⟨rfl, hgi 1 _ rfl MM⟩) ?_
  refine WW 10 ?_; refine WW 11 ?_; refine WW 12 ?_; refine WW 13 ?_; refine WW 14 ?_
  refine WW 15 ?_
  refine VL 16 (.int .i64 (bI f2)) rfl rfl rfl rfl (.inl ⟨rfl, hgi 2 _ rfl MM⟩) ?_
  refine WW 17 ?_; refine WW 18 ?_; refine WW 19 ?_; refine WW 20 ?_; refine WW 21 ?_
  refine WW 22 ?_
  refine VL 23 (.int .i64 (bI f3)) rfl rfl rfl rfl (.inl ⟨rfl, hgi 3 _ rfl MM⟩) ?_
  refine WW 24 ?_; refine WW 25 ?_
  refine WW 27 ?_; refine WW 28 ?_; refine WW 29 ?_
  refine VL 30 (.slice a ch.length cap) rfl rfl rfl rfl (.inl ⟨rfl, hgi 4 _ rfl MM⟩) ?_
  refine WW 31 ?_
  rw [← hbits]
  unfold bytesM
  generalize bitsM [f0, f1, f2, f3] = z
  have hz9 := numB_nine z
  have hn9 := numB_nine ch.length
  have hzz := ba_size (numB (clampN z))
  have hnz := ba_size (numB (clampN ch.length))
  refine WH.only 26 rfl rfl (by kernel_rfl) rfl (OP.callRO rfl rfl (qnumber_ro z) (fun _ _ => trivial) rfl rfl ⟨fun _ => II, ?_⟩)
  refine WH.only 32 rfl rfl (by kernel_rfl) rfl (OP.callRO rfl rfl (qnumber_ro ch.length) (fun _ _ => trivial) rfl rfl ⟨fun _ => II, ?_⟩)
  refine WW 33 ?_
  rw [ba_app]
  refine WW 34 ?_
  refine DN ?_
  generalize hpre : numB (clampN z) ++ numB (clampN ch.length) = pre
  have hpl : pre.length ≤ 18 := by rw [← hpre, List.length_append]; omega
  repeat (first | refine GO ?_ | refine NW fun _ => ?_)
  refine WL.step rfl (OP.load1 (v := .slice a ch.length cap) rfl rfl rfl rfl (hgi 4 _ rfl MM) rfl rfl ?_)
  repeat (first | refine GO ?_ | refine NW fun _ => ?_)
  refine WC.loop (σ := Nat) (fun k => k ≤ ch.length)
    (fun k => [(0, .val (.pointer (some ⟨p, 0, none⟩))), (3, .val (.string (ba (pre ++ (ch.take k).flatMap chB)))), (44, .val (.int .i64 ch.length)), (45, .val (.int .i64 k))])
    (fun _ => [A]) (fun k => ch.length - k) 0 (Nat.zero_le _) ⟨rfl, by simp; rfl, rfl, rfl, trivial⟩ (Imp.refl _) ?_
  rintro k hk
  by_cases hlt : k < ch.length
  rotate_left
  · rw [List.take_of_length_le (by omega)]
    repeat (first | refine GD ?_ | refine NW fun _ => ?_)
    exact ret1 rfl ⟨rfl, MM⟩
  have hsn := chB_snoc ch k hlt
  have hbl := chBs_len (ch.take k)
  rw [List.length_take] at hbl
  have hge : ∀ j, j < 3 → (encL ch)[k * 3 + j]? = (encC ch[k])[j]? := fun j hj => encL_get _ _ _ hlt hj
  obtain ⟨v0, v1⟩ := hv ch[k] (List.getElem_mem _)
  generalize ch[k] = c at *
  obtain ⟨cm, cv, cg⟩ := c
  dsimp only at v0 v1
  have hm9 := numB_nine cm
  have hmz := ba_size (numB (clampN cm))
  generalize hl3 : pre ++ (ch.take k).flatMap chB = l3
  have hll : l3.length ≤ 2000 := by rw [← hl3, List.length_append]; omega
  have hlz := ba_size l3
  repeat (first | refine GD ?_ | refine NW fun _ => ?_)
  refine WL.step rfl (OP.load1 (v := .slice a ch.length cap) rfl rfl rfl rfl (hgi 4 _ rfl MM) rfl rfl ?_)
  refine WL.fact (Ent.some (hE2 MM) (by omega)) ?_
  rintro ⟨b, off, rfl⟩
  repeat (first | refine GD ?_ | refine NW fun _ => ?_)
  refine WL.step rfl (OP.load1 (v := .int .i64 cv) rfl rfl rfl rfl (Ent.elem (i := k * 3 + 1) (hE2 MM) rfl (hge 1 (by decide))) rfl rfl ?_)
  repeat (first | refine GD ?_ | refine NW fun _ => ?_)
  refine WL.step rfl (OP.load1 (v := .slice (some ⟨b, off, none⟩) ch.length cap) rfl rfl rfl rfl (hgi 4 _ rfl MM) rfl rfl ?_)
  repeat (first | refine GD ?_ | refine NW fun _ => ?_)
  refine WL.step rfl (OP.load1 (v := .bool cg) rfl rfl rfl rfl (Ent.elem (i := k * 3 + 2) (hE2 MM) rfl (hge 2 (by decide))) rfl rfl ?_)
  have e3 : l3 ++ numB (clampN cm) ++ numB (clampN (2 * cv + (if cg = true then 1 else 0))) = pre ++ (ch.take (k + 1)).flatMap chB := by
    rw [hsn, ← hl3]; unfold chB; simp only [List.append_assoc]
  cases cg
  · have e4 : l3 ++ numB (clampN cm) ++ numB (clampN (2 * cv)) = pre ++ (ch.take (k + 1)).flatMap chB := by
      rw [← e3, if_neg (by decide), Int.add_zero]
    have hx9 := numB_nine (2 * cv)
    have hxz := ba_size (numB (clampN (2 * cv)))
    repeat (first | refine GD ?_ | refine NW fun _ => ?_)
    refine WL.step rfl (OP.load1 (v := .slice (some ⟨b, off, none⟩) ch.length cap) rfl rfl rfl rfl (hgi 4 _ rfl MM) rfl rfl ?_)
    repeat (first | refine GD ?_ | refine NW fun _ => ?_)
    refine WL.step rfl (OP.load1 (v := .int .i64 cm) rfl rfl rfl rfl (Ent.elem (i := k * 3 + 0) (hE2 MM) rfl (hge 0 (by decide))) rfl rfl ?_)
    repeat (first | refine GD ?_ | refine NW fun _ => ?_)
    refine WL.step rfl (OP.callRO rfl rfl (qnumber_ro cm) (fun _ _ => trivial) rfl rfl ?_)
    have hlmz := ba_size (l3 ++ numB (clampN cm))
    rw [List.length_append] at hlmz
    repeat (first | refine GD ?_ | refine NW fun _ => ?_)
    rw [ba_app]
    refine WL.step rfl (OP.callRO rfl rfl (qnumber_ro (2 * cv)) (fun _ _ => trivial) rfl rfl ?_)
    repeat (first | refine GD ?_ | refine NW fun _ => ?_)
    rw [ba_app, e4]
    exact ⟨k + 1, by omega, by omega, ⟨rfl, rfl, rfl, rfl, trivial⟩, Imp.refl _⟩
  · have e4 : l3 ++ numB (clampN cm) ++ numB (clampN (2 * cv + 1)) = pre ++ (ch.take (k + 1)).flatMap chB := by
      rw [← e3, if_pos rfl]
    have hx9 := numB_nine (2 * cv + 1)
    have hxz := ba_size (numB (clampN (2 * cv + 1)))
    repeat (first | refine GD ?_ | refine NW fun _ => ?_)
    refine WL.step rfl (OP.load1 (v := .slice (some ⟨b, off, none⟩) ch.length cap) rfl rfl rfl rfl (hgi 4 _ rfl MM) rfl rfl ?_)
    repeat (first | refine GD ?_ | refine NW fun _ => ?_)
    refine WL.step rfl (OP.load1 (v := .int .i64 cm) rfl rfl rfl rfl (Ent.elem (i := k * 3 + 0) (hE2 MM) rfl (hge 0 (by decide))) rfl rfl ?_)
    repeat (first | refine GD ?_ | refine NW fun _ => ?_)
    refine WL.step rfl (OP.callRO rfl rfl (qnumber_ro cm) (fun _ _ => trivial) rfl rfl ?_)
    have hlmz := ba_size (l3 ++ numB (clampN cm))
    rw [List.length_append] at hlmz
    repeat (first | refine GD ?_ | refine NW fun _ => ?_)
    rw [ba_app]
    refine WL.step rfl (OP.callRO rfl rfl (qnumber_ro (2 * cv + 1)) (fun _ _ => trivial) rfl rfl ?_)
    repeat (first | refine GD ?_ | refine NW fun _ => ?_)
    rw [ba_app, e4]
    exact ⟨k + 1, by omega, by omega, ⟨rfl, rfl, rfl, rfl, trivial⟩, Imp.refl _⟩
end Go.Proofs.YtkoakmaihcheaabDoor
/- Contracts of functions of the given program, and plain laws on what they compute: parts of the proofs of laws. -/

namespace Go.Proofs.YtkoakmaihcheaabDoor
open Go Go.GL Go.Extern

/-- a type's handle -/
def hd (t : Nat) : Value := .pointer (some ⟨1, t, none⟩)
def rt (t : Nat) : Value := .iface 126 (.agg #[hd t])
def errT : Value := rt 26
theorem xValueOf : IsExt Tryd.prog 57 (fun args => ReflectliteValue.unpack (args.getD 0 (.tuple #[]))) := fun args w => run_callFunc_extern (e := (fun args => ReflectliteValue.unpack (args.getD 0 (.tuple #[])))) Tryd.func57 (by kernel_rfl) (by kernel_rfl) (by kernel_rfl) (by kernel_rfl) args w
theorem xType : IsExt Tryd.prog 58 (ReflectliteValue.methodAny (ReflectliteValue.valueError "reflectlite.Value.Type" 0) (fun t _ _ _ => ReflectliteType.toType t)) := fun args w => run_callFunc_extern (e := (ReflectliteValue.methodAny (ReflectliteValue.valueError "reflectlite.Value.Type" 0) (fun t _ _ _ => ReflectliteType.toType t))) Tryd.func58 (by kernel_rfl) (by kernel_rfl) (by kernel_rfl) (by kernel_rfl) args w
theorem xIsNil : IsExt Tryd.prog 59 (ReflectliteValue.method (ReflectliteValue.valueError "reflectlite.Value.IsNil" 0) ReflectliteValue.isNil) := fun args w => run_callFunc_extern (e := (ReflectliteValue.method (ReflectliteValue.valueError "reflectlite.Value.IsNil" 0) ReflectliteValue.isNil)) Tryd.func59 (by kernel_rfl) (by kernel_rfl) (by kernel_rfl) (by kernel_rfl) args w
theorem xKind : IsExt Tryd.prog 91 (ReflectliteType.abiMethod fun t => do pure (.int .u8 (← Rtype.kind t))) := fun args w => run_callFunc_extern (e := (ReflectliteType.abiMethod fun t => do pure (.int .u8 (← Rtype.kind t)))) Tryd.func91 (by kernel_rfl) (by kernel_rfl) (by kernel_rfl) (by kernel_rfl) args w
theorem xElem : IsExt Tryd.prog 103 (ReflectliteType.method ReflectliteType.elem) := fun args w => run_callFunc_extern (e := (ReflectliteType.method ReflectliteType.elem)) Tryd.func103 (by kernel_rfl) (by kernel_rfl) (by kernel_rfl) (by kernel_rfl) args w
theorem xImplements : IsExt Tryd.prog 104 (ReflectliteType.relation "Implements" ReflectliteType.implements_) := fun args w => run_callFunc_extern (e := (ReflectliteType.relation "Implements" ReflectliteType.implements_)) Tryd.func104 (by kernel_rfl) (by kernel_rfl) (by kernel_rfl) (by kernel_rfl) args w
theorem xTypeOf : IsExt Tryd.prog 68 ReflectliteType.typeOf := fun args w => run_callFunc_extern (e := ReflectliteType.typeOf) Tryd.func68 (by kernel_rfl) (by kernel_rfl) (by kernel_rfl) (by kernel_rfl) args w
theorem xAssignableTo : IsExt Tryd.prog 101 (ReflectliteType.relation "AssignableTo" ReflectliteType.assignableTo) := fun args w => run_callFunc_extern (e := (ReflectliteType.relation "AssignableTo" ReflectliteType.assignableTo)) Tryd.func101 (by kernel_rfl) (by kernel_rfl) (by kernel_rfl) (by kernel_rfl) args w
theorem xElemV : IsExt Tryd.prog 69 (ReflectliteValue.method (ReflectliteValue.valueError "reflectlite.Value.Elem" 0) ReflectliteValue.elem) := fun args w => run_callFunc_extern (e := (ReflectliteValue.method (ReflectliteValue.valueError "reflectlite.Value.Elem" 0) ReflectliteValue.elem)) Tryd.func69 (by kernel_rfl) (by kernel_rfl) (by kernel_rfl) (by kernel_rfl) args w
theorem xSet : IsExt Tryd.prog 70 ReflectliteValue.set := fun args w => run_callFunc_extern (e := ReflectliteValue.set) Tryd.func70 (by kernel_rfl) (by kernel_rfl) (by kernel_rfl) (by kernel_rfl) args w
theorem mKind (h : Value) (w : World) : (Go.method (Tryd.prog.types.size + Made.depth) 126 (.agg #[h]) "Kind").run Tryd.prog w = .ok (91, h) w := by kernel_rfl
theorem mElem (h : Value) (w : World) : (Go.method (Tryd.prog.types.size + Made.depth) 126 (.agg #[h]) "Elem").run Tryd.prog w = .ok (103, .agg #[h]) w := by kernel_rfl
theorem mImplements (h : Value) (w : World) : (Go.method (Tryd.prog.types.size + Made.depth) 126 (.agg #[h]) "Implements").run Tryd.prog w = .ok (104, .agg #[h]) w := by kernel_rfl
theorem mAssignableTo (h : Value) (w : World) : (Go.method (Tryd.prog.types.size + Made.depth) 126 (.agg #[h]) "AssignableTo").run Tryd.prog w = .ok (101, .agg #[h]) w := by kernel_rfl
theorem mUnwrap (v : Value) (w : World) : (Go.method (Tryd.prog.types.size + Made.depth) 85 v "Unwrap").run Tryd.prog w = .ok (96, v) w := by kernel_rfl
theorem valueOfNP (t : Addr) (w : World) : (ReflectliteValue.unpack (.iface 73 (.pointer (some t)))).run Tryd.prog w = .ok (.agg #[hd 73, .pointer (some ⟨w.heap.size, 0, none⟩), .int .u64 150]) (w.alloc (.cells #[.pointer (some t)] 73)) := by kernel_rfl
theorem typeNP (a : Addr) (w : World) : ((ReflectliteValue.methodAny (ReflectliteValue.valueError "reflectlite.Value.Type" 0) (fun t _ _ _ => ReflectliteType.toType t)) #[.agg #[hd 73, .pointer (some a), .int .u64 150]]).run Tryd.prog w = .ok (rt 73) w := by kernel_rfl
theorem partsNP (a : Addr) (w : World) : (ReflectliteValue.parts (.agg #[hd 73, .pointer (some a), .int .u64 150])).run Tryd.prog w = .ok (some (73, a, 150)) w := by kernel_rfl
theorem valueOfFF (t : Addr) (w : World) : (ReflectliteValue.unpack (.iface 120 (.pointer (some t)))).run Tryd.prog w = .ok (.agg #[hd 120, .pointer (some ⟨w.heap.size, 0, none⟩), .int .u64 150]) (w.alloc (.cells #[.pointer (some t)] 120)) := by kernel_rfl
theorem typeFF (a : Addr) (w : World) : ((ReflectliteValue.methodAny (ReflectliteValue.valueError "reflectlite.Value.Type" 0) (fun t _ _ _ => ReflectliteType.toType t)) #[.agg #[hd 120, .pointer (some a), .int .u64 150]]).run Tryd.prog w = .ok (rt 120) w := by kernel_rfl
theorem partsFF (a : Addr) (w : World) : (ReflectliteValue.parts (.agg #[hd 120, .pointer (some a), .int .u64 150])).run Tryd.prog w = .ok (some (120, a, 150)) w := by kernel_rfl
theorem rlm (z : Sem Value) (f : TypeId → Addr → Nat → Nat → Sem Value) (v : Value) : ReflectliteValue.method z f #[v] = (do match ← ReflectliteValue.parts v with | none => z | some (t, a, fl) => f t a fl (fl % 32)) := rfl
theorem isNilNP (a p : Addr) (W : World) (ha : W.cell? a = some (.pointer (some p))) : ((ReflectliteValue.method (ReflectliteValue.valueError "reflectlite.Value.IsNil" 0) ReflectliteValue.isNil) #[.agg #[hd 73, .pointer (some a), .int .u64 150]]).run Tryd.prog W = .ok (.bool false) W := by
  rw [rlm]
  simp only [Sem.run_bind, partsNP, Result.andThen]
  simp [ReflectliteValue.isNil, loadVar, isAgg, underlying, Tryd.underlying73, ha, Result.andThen]
theorem isNilFF (a p : Addr) (W : World) (ha : W.cell? a = some (.pointer (some p))) : ((ReflectliteValue.method (ReflectliteValue.valueError "reflectlite.Value.IsNil" 0) ReflectliteValue.isNil) #[.agg #[hd 120, .pointer (some a), .int .u64 150]]).run Tryd.prog W = .ok (.bool false) W := by
  rw [rlm]
  simp only [Sem.run_bind, partsFF, Result.andThen]
  simp [ReflectliteValue.isNil, loadVar, isAgg, underlying, Tryd.underlying120, ha, Result.andThen]
theorem kindNP (w : World) : ((ReflectliteType.abiMethod fun t => do pure (.int .u8 (← Rtype.kind t))) #[hd 73]).run Tryd.prog w = .ok (.int .u8 22) w := by kernel_rfl
theorem kindFF (w : World) : ((ReflectliteType.abiMethod fun t => do pure (.int .u8 (← Rtype.kind t))) #[hd 120]).run Tryd.prog w = .ok (.int .u8 22) w := by kernel_rfl
theorem kindN (w : World) : ((ReflectliteType.abiMethod fun t => do pure (.int .u8 (← Rtype.kind t))) #[hd 29]).run Tryd.prog w = .ok (.int .u8 2) w := by kernel_rfl
theorem kindF (w : World) : ((ReflectliteType.abiMethod fun t => do pure (.int .u8 (← Rtype.kind t))) #[hd 85]).run Tryd.prog w = .ok (.int .u8 22) w := by kernel_rfl
theorem elemNP (w : World) : ((ReflectliteType.method ReflectliteType.elem) #[.agg #[hd 73]]).run Tryd.prog w = .ok (rt 29) w := by kernel_rfl
theorem elemOfNP (w : World) : (Rtype.elem? 73).run Tryd.prog w = .ok (some 29) w := by kernel_rfl
theorem elemFF (w : World) : ((ReflectliteType.method ReflectliteType.elem) #[.agg #[hd 120]]).run Tryd.prog w = .ok (rt 85) w := by kernel_rfl
theorem elemOfFF (w : World) : (Rtype.elem? 120).run Tryd.prog w = .ok (some 85) w := by kernel_rfl
theorem implementsN (w : World) : ((ReflectliteType.relation "Implements" ReflectliteType.implements_) #[.agg #[hd 29], errT]).run Tryd.prog w = .ok (.bool true) w := by kernel_rfl
theorem typeOfN (v : Value) (w : World) : (ReflectliteType.typeOf #[.iface 29 v]).run Tryd.prog w = .ok (rt 29) w := by kernel_rfl
theorem mkN (p : Addr) (w : World) : (ReflectliteValue.mk 29 p ReflectliteValue.flagAddr).run Tryd.prog w = .ok (.agg #[hd 29, .pointer (some p), .int .u64 386]) w := by kernel_rfl
theorem partsAN (a : Addr) (w : World) : (ReflectliteValue.parts (.agg #[hd 29, .pointer (some a), .int .u64 386])).run Tryd.prog w = .ok (some (29, a, 386)) w := by kernel_rfl
theorem partsBN (a : Addr) (w : World) : (ReflectliteValue.parts (.agg #[hd 29, .pointer (some a), .int .u64 130])).run Tryd.prog w = .ok (some (29, a, 130)) w := by kernel_rfl
theorem directN (w : World) : (Rtype.directlyAssignable 29 29).run Tryd.prog w = .ok true w := by kernel_rfl
theorem implementsF (w : World) : ((ReflectliteType.relation "Implements" ReflectliteType.implements_) #[.agg #[hd 85], errT]).run Tryd.prog w = .ok (.bool true) w := by kernel_rfl
theorem typeOfF (v : Value) (w : World) : (ReflectliteType.typeOf #[.iface 85 v]).run Tryd.prog w = .ok (rt 85) w := by kernel_rfl
theorem mkF (p : Addr) (w : World) : (ReflectliteValue.mk 85 p ReflectliteValue.flagAddr).run Tryd.prog w = .ok (.agg #[hd 85, .pointer (some p), .int .u64 406]) w := by kernel_rfl
theorem partsAF (a : Addr) (w : World) : (ReflectliteValue.parts (.agg #[hd 85, .pointer (some a), .int .u64 406])).run Tryd.prog w = .ok (some (85, a, 406)) w := by kernel_rfl
theorem partsBF (a : Addr) (w : World) : (ReflectliteValue.parts (.agg #[hd 85, .pointer (some a), .int .u64 150])).run Tryd.prog w = .ok (some (85, a, 150)) w := by kernel_rfl
theorem directF (w : World) : (Rtype.directlyAssignable 85 85).run Tryd.prog w = .ok true w := by kernel_rfl
theorem assignFN (w : World) : ((ReflectliteType.relation "AssignableTo" ReflectliteType.assignableTo) #[.agg #[hd 85], rt 29]).run Tryd.prog w = .ok (.bool false) w := by kernel_rfl
theorem assignNN (w : World) : ((ReflectliteType.relation "AssignableTo" ReflectliteType.assignableTo) #[.agg #[hd 29], rt 29]).run Tryd.prog w = .ok (.bool true) w := by kernel_rfl
theorem assignFF (w : World) : ((ReflectliteType.relation "AssignableTo" ReflectliteType.assignableTo) #[.agg #[hd 85], rt 85]).run Tryd.prog w = .ok (.bool true) w := by kernel_rfl
theorem assignNF (w : World) : ((ReflectliteType.relation "AssignableTo" ReflectliteType.assignableTo) #[.agg #[hd 29], rt 85]).run Tryd.prog w = .ok (.bool false) w := by kernel_rfl
theorem valueOfF (e : Addr) (w : World) : (ReflectliteValue.unpack (.iface 85 (.pointer (some e)))).run Tryd.prog w = .ok (.agg #[hd 85, .pointer (some ⟨w.heap.size, 0, none⟩), .int .u64 150]) (w.alloc (.cells #[.pointer (some e)] 85)) := by kernel_rfl
theorem valueOfN (c : Int) (w : World) : (ReflectliteValue.unpack (.iface 29 (.int .i64 c))).run Tryd.prog w = .ok (.agg #[hd 29, .pointer (some ⟨w.heap.size, 0, none⟩), .int .u64 130]) (w.alloc (.cells #[.int .i64 c] 29)) := by kernel_rfl
theorem elemVNP (a p : Addr) (W : World) (ha : W.cell? a = some (.pointer (some p))) : ((ReflectliteValue.method (ReflectliteValue.valueError "reflectlite.Value.Elem" 0) ReflectliteValue.elem) #[.agg #[hd 73, .pointer (some a), .int .u64 150]]).run Tryd.prog W = .ok (.agg #[hd 29, .pointer (some p), .int .u64 386]) W := by
  rw [rlm]
  simp only [Sem.run_bind, partsNP, Result.andThen]
  simp [ReflectliteValue.elem, loadVar, isAgg, underlying, Tryd.underlying73, ha, Result.andThen, elemOfNP, mkN]
theorem elemVFF (a p : Addr) (W : World) (ha : W.cell? a = some (.pointer (some p))) : ((ReflectliteValue.method (ReflectliteValue.valueError "reflectlite.Value.Elem" 0) ReflectliteValue.elem) #[.agg #[hd 120, .pointer (some a), .int .u64 150]]).run Tryd.prog W = .ok (.agg #[hd 85, .pointer (some p), .int .u64 406]) W := by
  rw [rlm]
  simp only [Sem.run_bind, partsFF, Result.andThen]
  simp [ReflectliteValue.elem, loadVar, isAgg, underlying, Tryd.underlying120, ha, Result.andThen, elemOfFF, mkF]
theorem rls (v x : Value) : ReflectliteValue.set #[v, x] = (do
    let (some (dst, a, fl), some (src, b, _)) := (← ReflectliteValue.parts v, ← ReflectliteValue.parts x)
      | unsupported (.noEntry "extern/(internal/reflectlite.Value).Set.zeroValue")
    if fl / ReflectliteValue.flagAddr % 2 == 0 then unsupported (.noEntry "extern/(internal/reflectlite.Value).Set.unaddressable")
    let val ← loadVar src b
    if ← Rtype.directlyAssignable dst src then storeVar dst a val
    else if ← Rtype.implements dst src then
      if (← Rtype.kind src) == 20 then
        match val with
        | .nilIface => unsupported (.noEntry "extern/reflectlite: a nil value of one interface type handed on as a value of another")
        | _ => storeVar dst a val
      else storeVar dst a (.iface src val)
    else panicString ("reflectlite.Set: value of type " ++ (← Rtype.spelt src) ++ " is not assignable to type " ++ (← Rtype.spelt dst))
    pure (.tuple #[])) := rfl
theorem sizeN (w : World) : (sizeOf 29).run Tryd.prog w = .ok 1 w := by kernel_rfl
theorem setN (ta b : Addr) (c : Int) (old : Value) (W : World) (hb : W.cell? b = some (.int .i64 c)) (ht : W.cell? ta = some old) (hf : W.frozen? ta = false) :
    (ReflectliteValue.set #[.agg #[hd 29, .pointer (some ta), .int .u64 386], .agg #[hd 29, .pointer (some b), .int .u64 130]]).run Tryd.prog W = .ok (.tuple #[]) (W.setCell ta (.int .i64 c)) := by
  rw [rls]
  simp only [Sem.run_bind, partsAN, partsBN, Result.andThen]
  simp [ReflectliteValue.flagAddr, loadVar, isAgg, underlying, Tryd.underlying29, hb, Result.andThen, directN, storeVar, Value.cells, storeCells, Addr.add]
  rw [run_store Tryd.prog W ta _ _ (by rfl)]
  simp [ht, hf]
theorem sizeF (w : World) : (sizeOf 85).run Tryd.prog w = .ok 1 w := by kernel_rfl
theorem setF (ta b : Addr) (c : Option Addr) (old : Value) (W : World) (hb : W.cell? b = some (.pointer c)) (ht : W.cell? ta = some old) (hf : W.frozen? ta = false) :
    (ReflectliteValue.set #[.agg #[hd 85, .pointer (some ta), .int .u64 406], .agg #[hd 85, .pointer (some b), .int .u64 150]]).run Tryd.prog W = .ok (.tuple #[]) (W.setCell ta (.pointer c)) := by
  rw [rls]
  simp only [Sem.run_bind, partsAF, partsBF, Result.andThen]
  simp [ReflectliteValue.flagAddr, loadVar, isAgg, underlying, Tryd.underlying85, hb, Result.andThen, directF, storeVar, Value.cells, storeCells, Addr.add]
  rw [run_store Tryd.prog W ta _ _ (by rfl)]
  simp [ht, hf]
theorem assertFIA (v : Value) (w : World) : (Instr.typeAssert (.iface 85 v) 26 131 true).run Tryd.prog w = .ok (.tuple #[.nilIface, .bool false]) w := run_typeAssert_lacksB Tryd.underlying131 (by kernel_rfl) (by kernel_rfl) v 26 w
theorem assertFIU (v : Value) (w : World) : (Instr.typeAssert (.iface 85 v) 26 134 true).run Tryd.prog w = .ok (.tuple #[.iface 85 v, .bool true]) w := run_typeAssert_hasB Tryd.underlying134 (by kernel_rfl) v 26 w
theorem assertNIA (v : Value) (w : World) : (Instr.typeAssert (.iface 29 v) 26 131 true).run Tryd.prog w = .ok (.tuple #[.nilIface, .bool false]) w := run_typeAssert_lacksB Tryd.underlying131 (by kernel_rfl) (by kernel_rfl) v 26 w
theorem assertNIU (v : Value) (w : World) : (Instr.typeAssert (.iface 29 v) 26 134 true).run Tryd.prog w = .ok (.tuple #[.nilIface, .bool false]) w := run_typeAssert_lacksB Tryd.underlying134 (by kernel_rfl) (by kernel_rfl) v 26 w
theorem assertNIL (v : Value) (w : World) : (Instr.typeAssert (.iface 29 v) 26 136 true).run Tryd.prog w = .ok (.tuple #[.nilIface, .bool false]) w := run_typeAssert_lacksB Tryd.underlying136 (by kernel_rfl) (by kernel_rfl) v 26 w
end Go.Proofs.YtkoakmaihcheaabDoor
/- Contracts of functions of the given program, and plain laws on what they compute: parts of the proofs of laws. -/

namespace Go.Proofs.YtkoakmaihcheaabDoor
open Go Go.GL Go.Extern

/-- the cells of a fault -/
def faultCells (op : ByteArray) (at_ c : Int) : List Value := [.string op, .int .i64 at_, .iface 29 (.int .i64 c)]
/-- the type of errors lies where errors.As looks for it -/
def ErrT : Assn := cellAt 0 0 errT
theorem up_ErrT : Up ErrT := up_cellAt _ _ _
theorem cell_of_blk0 {L : List Assn} {w : World} {b : Nat} {c : List Value} {T : TypeId} {v : Value} (s : Sat L w) (m : blk b c T ∈ L) (h : c[0]? = some v) : w.cell? ⟨b, 0, none⟩ = some v :=
  cell_of_cellAt ((Ent.blk m h) _ s)
theorem cell_of_cells0 {L : List Assn} {w : World} {b off i : Nat} {l : List Value} {v : Value} (s : Sat L w) (m : Ent L (cellsAt b off l)) (h : l[i]? = some v) : w.cell? ⟨b, off + i, none⟩ = some v :=
  cell_of_cellAt (cellsAt_one (m _ s) h)
set_option maxRecDepth 10000 in
theorem as_nil (v : Value) : RO G 37 [.nilIface, v] (fun _ => True) (.bool false) := by
  refine RO.enter Tryd.func37 rfl (by decide) rfl Tryd.ntmps37 rfl (fun A _ hA => ?_) (fun _ _ _ h => h)
  repeat (first | refine GO ?_ | refine NW fun _ => ?_)
  exact ret1 rfl ⟨rfl, MM⟩
set_option maxRecDepth 10000 in
theorem unwrap_ro (b : Nat) (op : ByteArray) (at_ c : Int) : RO G 96 [.pointer (some ⟨b, 0, none⟩)] (cellsAt b 0 (faultCells op at_ c)) (.iface 29 (.int .i64 c)) := by
  refine RO.enter Tryd.func96 rfl (by decide) rfl Tryd.ntmps96 rfl (fun A hu hA => ?_) (up_cellsAt _ _ _)
  repeat (first | refine GO ?_ | refine NW fun _ => ?_)
  refine WL.step rfl (OP.load1 (v := .iface 29 (.int .i64 c)) rfl rfl rfl rfl (Ent.mem (A := A) MM hu (fun h x => cellsAt_one (i := 2) (hA h x) rfl)) rfl rfl ?_)
  repeat (first | refine GO ?_ | refine NW fun _ => ?_)
  exact ret1 rfl ⟨rfl, MM⟩
set_option maxHeartbeats 4000000 in
set_option maxRecDepth 10000 in
theorem asF_hit (b p q : Nat) (old : Value) :
    Triple G 60 [.iface 85 (.pointer (some ⟨b, 0, none⟩)), .iface 120 (.pointer (some ⟨p, 0, none⟩)), .agg #[hd 120, .pointer (some ⟨q, 0, none⟩), .int .u64 150], rt 85] [blk p [old] 85, blk q [.pointer (some ⟨p, 0, none⟩)] 120] (fun v M => v = .bool true ∧ M = [blk p [.pointer (some ⟨b, 0, none⟩)] 85]) := by
  refine Triple.enter Tryd.func60 rfl (by decide) rfl Tryd.ntmps60 rfl (fun X => ?_)
  repeat (first | refine GO ?_ | refine NW fun _ => ?_)
  rename_i bx
  refine WC.loop (σ := Unit) (fun _ => True) (fun _ => [(0, .val (.iface 85 (.pointer (some ⟨b, 0, none⟩)))), (1, .val (.iface 120 (.pointer (some ⟨p, 0, none⟩)))), (3, .val (rt 85)), (6, .val (.pointer (some ⟨bx, 0, none⟩))), (8, .val (.bool false))])
    (fun _ => [blk bx [hd 120, .pointer (some ⟨q, 0, none⟩), .int .u64 150] 105, blk p [old] 85, blk q [.pointer (some ⟨p, 0, none⟩)] 120, X]) (fun _ => 0) () trivial ⟨rfl, rfl, rfl, rfl, rfl, trivial⟩ II ?_
  rintro _ _
  repeat (first | refine GD ?_ | refine NW fun _ => ?_)
  refine WL.step rfl (OP.extP (.call xTypeOf rfl rfl) (fun w _ => typeOfF _ w) rfl rfl ?_)
  repeat (first | refine GD ?_ | refine NW fun _ => ?_)
  refine WL.step rfl (OP.extP (.inv xAssignableTo rfl rfl rfl (fun w => mAssignableTo _ w)) (fun w _ => assignFF w) rfl rfl ?_)
  repeat (first | refine GD ?_ | refine NW fun _ => ?_)
  refine WL.step rfl (OP.extP (.call xElemV rfl rfl) (fun w s => elemVFF _ ⟨p, 0, none⟩ w (cell_of_blk0 (b := q) s MM rfl)) rfl rfl ?_)
  repeat (first | refine GD ?_ | refine NW fun _ => ?_)
  refine WL.step rfl (OP.extNew (mk := (fun n => .agg #[hd 85, .pointer (some ⟨n, 0, none⟩), .int .u64 150])) (.call xValueOf rfl rfl) (fun w _ => valueOfF _ w) rfl rfl (fun q2 => ?_))
  repeat (first | refine GD ?_ | refine NW fun _ => ?_)
  refine WL.step rfl (OP.extSet (.call xSet rfl rfl) (fun w s => setF ⟨p, 0, none⟩ ⟨q2, 0, none⟩ (some ⟨b, 0, none⟩) old w (cell_of_blk0 (b := q2) s MM rfl) (cell_of_blk0 (b := p) s MM rfl) (Sat.notFrozen (b := p) (c := [old]) (T := 85) s MM (Nat.zero_lt_succ _))) (by repeat (first | exact Upd.here _ _ _ _ _ | apply Upd.there)) rfl rfl ?_)
  repeat (first | refine GD ?_ | refine NW fun _ => ?_)
  exact ret1 rfl ⟨_, ⟨rfl, rfl⟩, II⟩
set_option maxHeartbeats 4000000 in
set_option maxRecDepth 10000 in
theorem asF_miss (p q : Nat) (c : Int) :
    Triple G 60 [.iface 29 (.int .i64 c), .iface 120 (.pointer (some ⟨p, 0, none⟩)), .agg #[hd 120, .pointer (some ⟨q, 0, none⟩), .int .u64 150], rt 85] [] (fun v M => v = .bool false ∧ M = []) := by
  refine Triple.enter Tryd.func60 rfl (by decide) rfl Tryd.ntmps60 rfl (fun X => ?_)
  repeat (first | refine GO ?_ | refine NW fun _ => ?_)
  rename_i bx
  refine WC.loop (σ := Unit) (fun _ => True) (fun _ => [(0, .val (.iface 29 (.int .i64 c))), (1, .val (.iface 120 (.pointer (some ⟨p, 0, none⟩)))), (3, .val (rt 85)), (6, .val (.pointer (some ⟨bx, 0, none⟩))), (8, .val (.bool false))])
    (fun _ => [X]) (fun _ => 0) () trivial ⟨rfl, rfl, rfl, rfl, rfl, trivial⟩ II ?_
  rintro _ _
  repeat (first | refine GD ?_ | refine NW fun _ => ?_)
  refine WL.step rfl (OP.extP (.call xTypeOf rfl rfl) (fun w _ => typeOfN _ w) rfl rfl ?_)
  repeat (first | refine GD ?_ | refine NW fun _ => ?_)
  refine WL.step rfl (OP.extP (.inv xAssignableTo rfl rfl rfl (fun w => mAssignableTo _ w)) (fun w _ => assignNF w) rfl rfl ?_)
  repeat (first | refine GD ?_ | refine NW fun _ => ?_)
  refine WL.step rfl (OP.assert rfl rfl (fun w => assertNIA _ w) rfl rfl ?_)
  repeat (first | refine GD ?_ | refine NW fun _ => ?_)
  refine WL.step rfl (OP.assert rfl rfl (fun w => assertNIU _ w) rfl rfl ?_)
  repeat (first | refine GD ?_ | refine NW fun _ => ?_)
  refine WL.step rfl (OP.assert rfl rfl (fun w => assertNIL _ w) rfl rfl ?_)
  repeat (first | refine GD ?_ | refine NW fun _ => ?_)
  exact ret1 rfl ⟨_, ⟨rfl, rfl⟩, II⟩
set_option maxHeartbeats 4000000 in
set_option maxRecDepth 10000 in
theorem asN_fault (b p q : Nat) (op : ByteArray) (at_ c : Int) (old : Value) (A : Assn) (hu : Up A) (hA : ∀ h, A h → cellsAt b 0 (faultCells op at_ c) h) :
    Triple G 60 [.iface 85 (.pointer (some ⟨b, 0, none⟩)), .iface 73 (.pointer (some ⟨p, 0, none⟩)), .agg #[hd 73, .pointer (some ⟨q, 0, none⟩), .int .u64 150], rt 29] [blk p [old] 29, blk q [.pointer (some ⟨p, 0, none⟩)] 73, A] (fun v M => v = .bool true ∧ M = [blk p [.int .i64 c] 29, A]) := by
  refine Triple.enter Tryd.func60 rfl (by decide) rfl Tryd.ntmps60 rfl (fun X => ?_)
  repeat (first | refine GO ?_ | refine NW fun _ => ?_)
  rename_i bx
  refine WC.loop (σ := Bool) (fun _ => True) (fun s => match s with | true => [(0, .val (.iface 85 (.pointer (some ⟨b, 0, none⟩)))), (1, .val (.iface 73 (.pointer (some ⟨p, 0, none⟩)))), (3, .val (rt 29)), (6, .val (.pointer (some ⟨bx, 0, none⟩))), (8, .val (.bool false))] | false => [(0, .val (.iface 29 (.int .i64 c))), (1, .val (.iface 73 (.pointer (some ⟨p, 0, none⟩)))), (3, .val (rt 29)), (6, .val (.pointer (some ⟨bx, 0, none⟩))), (8, .val (.bool false))])
    (fun _ => [blk bx [hd 73, .pointer (some ⟨q, 0, none⟩), .int .u64 150] 105, blk p [old] 29, blk q [.pointer (some ⟨p, 0, none⟩)] 73, A, X]) (fun s => match s with | true => 1 | false => 0) true trivial ⟨rfl, rfl, rfl, rfl, rfl, trivial⟩ II ?_
  rintro s _
  cases s
  · repeat (first | refine GD ?_ | refine NW fun _ => ?_)
    refine WL.step rfl (OP.extP (.call xTypeOf rfl rfl) (fun w _ => typeOfN _ w) rfl rfl ?_)
    repeat (first | refine GD ?_ | refine NW fun _ => ?_)
    refine WL.step rfl (OP.extP (.inv xAssignableTo rfl rfl rfl (fun w => mAssignableTo _ w)) (fun w _ => assignNN w) rfl rfl ?_)
    repeat (first | refine GD ?_ | refine NW fun _ => ?_)
    refine WL.step rfl (OP.extP (.call xElemV rfl rfl) (fun w s => elemVNP _ ⟨p, 0, none⟩ w (cell_of_blk0 (b := q) s MM rfl)) rfl rfl ?_)
    repeat (first | refine GD ?_ | refine NW fun _ => ?_)
    refine WL.step rfl (OP.extNew (mk := (fun n => .agg #[hd 29, .pointer (some ⟨n, 0, none⟩), .int .u64 130])) (.call xValueOf rfl rfl) (fun w _ => valueOfN _ w) rfl rfl (fun q2 => ?_))
    repeat (first | refine GD ?_ | refine NW fun _ => ?_)
    refine WL.step rfl (OP.extSet (.call xSet rfl rfl) (fun w s => setN ⟨p, 0, none⟩ ⟨q2, 0, none⟩ c old w (cell_of_blk0 (b := q2) s MM rfl) (cell_of_blk0 (b := p) s MM rfl) (Sat.notFrozen (b := p) (c := [old]) (T := 29) s MM (Nat.zero_lt_succ _))) (by repeat (first | exact Upd.here _ _ _ _ _ | apply Upd.there)) rfl rfl ?_)
    repeat (first | refine GD ?_ | refine NW fun _ => ?_)
    exact ret1 rfl ⟨_, ⟨rfl, rfl⟩, II⟩
  · repeat (first | refine GD ?_ | refine NW fun _ => ?_)
    refine WL.step rfl (OP.extP (.call xTypeOf rfl rfl) (fun w _ => typeOfF _ w) rfl rfl ?_)
    repeat (first | refine GD ?_ | refine NW fun _ => ?_)
    refine WL.step rfl (OP.extP (.inv xAssignableTo rfl rfl rfl (fun w => mAssignableTo _ w)) (fun w _ => assignFN w) rfl rfl ?_)
    repeat (first | refine GD ?_ | refine NW fun _ => ?_)
    refine WL.step rfl (OP.assert rfl rfl (fun w => assertFIA _ w) rfl rfl ?_)
    repeat (first | refine GD ?_ | refine NW fun _ => ?_)
    refine WL.step rfl (OP.assert rfl rfl (fun w => assertFIU _ w) rfl rfl ?_)
    repeat (first | refine GD ?_ | refine NW fun _ => ?_)
    refine WL.step rfl (OP.invRO rfl rfl (fun w => mUnwrap _ w) (unwrap_ro b op at_ c) (Ent.mem (A := A) MM hu hA) rfl rfl ?_)
    repeat (first | refine GD ?_ | refine NW fun _ => ?_)
    exact ⟨false, trivial, by decide, ⟨rfl, rfl, rfl, rfl, rfl, trivial⟩, II⟩
set_option maxHeartbeats 4000000 in
set_option maxRecDepth 10000 in
theorem as_faults (b p : Nat) (old : Value) (A : Assn) (hu : Up A) (hA : ∀ h, A h → ErrT h) :
    Triple G 37 [.iface 85 (.pointer (some ⟨b, 0, none⟩)), .iface 120 (.pointer (some ⟨p, 0, none⟩))] ([blk p [old] 85, A]) (fun v M => v = .bool true ∧ M = [blk p [.pointer (some ⟨b, 0, none⟩)] 85, A]) := by
  refine Triple.enter Tryd.func37 rfl (by decide) rfl Tryd.ntmps37 rfl (fun F => ?_)
  repeat (first | refine GO ?_ | refine NW fun _ => ?_)
  refine WL.step rfl (OP.extNew (mk := fun n => .agg #[hd 120, .pointer (some ⟨n, 0, none⟩), .int .u64 150]) (.call xValueOf rfl rfl) (fun w _ => valueOfFF _ w) rfl rfl (fun q => ?_))
  repeat (first | refine GO ?_ | refine NW fun _ => ?_)
  refine WL.step rfl (OP.extP (.call xType rfl rfl) (fun w _ => typeFF _ w) rfl rfl ?_)
  repeat (first | refine GO ?_ | refine NW fun _ => ?_)
  refine WL.step rfl (OP.extP (.inv xKind rfl rfl rfl (fun w => mKind _ w)) (fun w _ => kindFF w) rfl rfl ?_)
  repeat (first | refine GO ?_ | refine NW fun _ => ?_)
  refine WL.guardT rfl rfl rfl rfl (OP.extP (.call xIsNil rfl rfl) (fun w s => isNilFF _ ⟨p, 0, none⟩ w (cell_of_blk0 (b := q) s MM rfl)) rfl rfl ?_)
  repeat (first | refine GO ?_ | refine NW fun _ => ?_)
  refine WL.step rfl (OP.extP (.inv xElem rfl rfl rfl (fun w => mElem _ w)) (fun w _ => elemFF w) rfl rfl ?_)
  repeat (first | refine GO ?_ | refine NW fun _ => ?_)
  refine WL.step rfl (OP.extP (.inv xKind rfl rfl rfl (fun w => mKind _ w)) (fun w _ => kindF w) rfl rfl ?_)
  repeat (first | refine GO ?_ | refine NW fun _ => ?_)
  refine WL.guardT rfl rfl rfl rfl (OP.load1 (v := errT) rfl rfl rfl rfl (Ent.mem (A := A) MM hu hA) rfl rfl ?_)
  repeat (first | refine GO ?_ | refine NW fun _ => ?_)
  refine WL.guardT rfl rfl rfl rfl (OP.extP (.inv xImplements rfl rfl rfl (fun w => mImplements _ w)) (fun w _ => implementsF w) rfl rfl ?_)
  repeat (first | refine GO ?_ | refine NW fun _ => ?_)
  refine WL.step rfl (OP.call (pre := [blk p [old] 85, blk q [.pointer (some ⟨p, 0, none⟩)] 120]) rfl rfl (asF_hit b p q old) PS rfl rfl ?_)
  rintro _ _ ⟨rfl, rfl⟩
  repeat (first | refine GO ?_ | refine NW fun _ => ?_)
  exact ret1 rfl ⟨_, ⟨rfl, rfl⟩, II⟩
set_option maxHeartbeats 4000000 in
set_option maxRecDepth 10000 in
theorem as_faultsN (p : Nat) (c : Int) (old : Value) (A : Assn) (hu : Up A) (hA : ∀ h, A h → ErrT h) :
    Triple G 37 [.iface 29 (.int .i64 c), .iface 120 (.pointer (some ⟨p, 0, none⟩))] ([blk p [old] 85, A]) (fun v M => v = .bool false ∧ M = [blk p [old] 85, A]) := by
  refine Triple.enter Tryd.func37 rfl (by decide) rfl Tryd.ntmps37 rfl (fun F => ?_)
  repeat (first | refine GO ?_ | refine NW fun _ => ?_)
  refine WL.step rfl (OP.extNew (mk := fun n => .agg #[hd 120, .pointer (some ⟨n, 0, none⟩), .int .u64 150]) (.call xValueOf rfl rfl) (fun w _ => valueOfFF _ w) rfl rfl (fun q => ?_))
  repeat (first | refine GO ?_ | refine NW fun _ => ?_)
  refine WL.step rfl (OP.extP (.call xType rfl rfl) (fun w _ => typeFF _ w) rfl rfl ?_)
  repeat (first | refine GO ?_ | refine NW fun _ => ?_)
  refine WL.step rfl (OP.extP (.inv xKind rfl rfl rfl (fun w => mKind _ w)) (fun w _ => kindFF w) rfl rfl ?_)
  repeat (first | refine GO ?_ | refine NW fun _ => ?_)
  refine WL.guardT rfl rfl rfl rfl (OP.extP (.call xIsNil rfl rfl) (fun w s => isNilFF _ ⟨p, 0, none⟩ w (cell_of_blk0 (b := q) s MM rfl)) rfl rfl ?_)
  repeat (first | refine GO ?_ | refine NW fun _ => ?_)
  refine WL.step rfl (OP.extP (.inv xElem rfl rfl rfl (fun w => mElem _ w)) (fun w _ => elemFF w) rfl rfl ?_)
  repeat (first | refine GO ?_ | refine NW fun _ => ?_)
  refine WL.step rfl (OP.extP (.inv xKind rfl rfl rfl (fun w => mKind _ w)) (fun w _ => kindF w) rfl rfl ?_)
  repeat (first | refine GO ?_ | refine NW fun _ => ?_)
  refine WL.guardT rfl rfl rfl rfl (OP.load1 (v := errT) rfl rfl rfl rfl (Ent.mem (A := A) MM hu hA) rfl rfl ?_)
  repeat (first | refine GO ?_ | refine NW fun _ => ?_)
  refine WL.guardT rfl rfl rfl rfl (OP.extP (.inv xImplements rfl rfl rfl (fun w => mImplements _ w)) (fun w _ => implementsF w) rfl rfl ?_)
  repeat (first | refine GO ?_ | refine NW fun _ => ?_)
  refine WL.step rfl (OP.call (pre := []) (F := _) rfl rfl (asF_miss p q c) (Imp.refl _) rfl rfl ?_)
  rintro _ _ ⟨rfl, rfl⟩
  repeat (first | refine GO ?_ | refine NW fun _ => ?_)
  exact ret1 rfl ⟨_, ⟨rfl, rfl⟩, II⟩
set_option maxHeartbeats 4000000 in
set_option maxRecDepth 10000 in
theorem as_code (b p : Nat) (op : ByteArray) (at_ c : Int) (old : Value) (A : Assn) (hu : Up A) (hA : ∀ h, A h → ErrT h) (hA2 : ∀ h, A h → cellsAt b 0 (faultCells op at_ c) h) :
    Triple G 37 [.iface 85 (.pointer (some ⟨b, 0, none⟩)), .iface 73 (.pointer (some ⟨p, 0, none⟩))] ([blk p [old] 29, A]) (fun v M => v = .bool true ∧ M = [blk p [.int .i64 c] 29, A]) := by
  refine Triple.enter Tryd.func37 rfl (by decide) rfl Tryd.ntmps37 rfl (fun F => ?_)
  repeat (first | refine GO ?_ | refine NW fun _ => ?_)
  refine WL.step rfl (OP.extNew (mk := fun n => .agg #[hd 73, .pointer (some ⟨n, 0, none⟩), .int .u64 150]) (.call xValueOf rfl rfl) (fun w _ => valueOfNP _ w) rfl rfl (fun q => ?_))
  repeat (first | refine GO ?_ | refine NW fun _ => ?_)
  refine WL.step rfl (OP.extP (.call xType rfl rfl) (fun w _ => typeNP _ w) rfl rfl ?_)
  repeat (first | refine GO ?_ | refine NW fun _ => ?_)
  refine WL.step rfl (OP.extP (.inv xKind rfl rfl rfl (fun w => mKind _ w)) (fun w _ => kindNP w) rfl rfl ?_)
  repeat (first | refine GO ?_ | refine NW fun _ => ?_)
  refine WL.guardT rfl rfl rfl rfl (OP.extP (.call xIsNil rfl rfl) (fun w s => isNilNP _ ⟨p, 0, none⟩ w (cell_of_blk0 (b := q) s MM rfl)) rfl rfl ?_)
  repeat (first | refine GO ?_ | refine NW fun _ => ?_)
  refine WL.step rfl (OP.extP (.inv xElem rfl rfl rfl (fun w => mElem _ w)) (fun w _ => elemNP w) rfl rfl ?_)
  repeat (first | refine GO ?_ | refine NW fun _ => ?_)
  refine WL.step rfl (OP.extP (.inv xKind rfl rfl rfl (fun w => mKind _ w)) (fun w _ => kindN w) rfl rfl ?_)
  repeat (first | refine GO ?_ | refine NW fun _ => ?_)
  refine WL.guardT rfl rfl rfl rfl (OP.load1 (v := errT) rfl rfl rfl rfl (Ent.mem (A := A) MM hu hA) rfl rfl ?_)
  repeat (first | refine GO ?_ | refine NW fun _ => ?_)
  refine WL.guardT rfl rfl rfl rfl (OP.extP (.inv xImplements rfl rfl rfl (fun w => mImplements _ w)) (fun w _ => implementsN w) rfl rfl ?_)
  repeat (first | refine GO ?_ | refine NW fun _ => ?_)
  refine WL.step rfl (OP.call (pre := [blk p [old] 29, blk q [.pointer (some ⟨p, 0, none⟩)] 73, A]) rfl rfl (asN_fault b p q op at_ c old A hu hA2) PS rfl rfl ?_)
  rintro _ _ ⟨rfl, rfl⟩
  repeat (first | refine GO ?_ | refine NW fun _ => ?_)
  exact ret1 rfl ⟨_, ⟨rfl, rfl⟩, II⟩
end Go.Proofs.YtkoakmaihcheaabDoor
/- Contracts of functions of the given program, and plain laws on what they compute: parts of the proofs of laws. -/

namespace Go.Proofs.YtkoakmaihcheaabDoor
open Go Go.GL

def FaultR (b : Nat) (op : ByteArray) (at_ c : Int) : Assn := fun h => ErrT h ∧ cellsAt b 0 (faultCells op at_ c) h
theorem up_FaultR (b : Nat) (op : ByteArray) (at_ c : Int) : Up (FaultR b op at_ c) := up_and up_ErrT (up_cellsAt _ _ _)
set_option maxRecDepth 10000 in
theorem code_nil : RO G 10 [.nilIface] (fun _ => True) (.int .i64 0) := by
  refine RO.enter Tryd.func10 rfl (by decide) rfl Tryd.ntmps10 rfl (fun A hu hA => ?_) (fun _ _ _ h => h)
  repeat (first | refine GO ?_ | refine NW fun _ => ?_)
  refine WL.step rfl (OP.callRO rfl rfl (as_nil _) (fun _ _ => trivial) rfl rfl ?_)
  repeat (first | refine GO ?_ | refine NW fun _ => ?_)
  exact ret1 rfl ⟨rfl, MM⟩
set_option maxRecDepth 10000 in
theorem code_fault (b : Nat) (op : ByteArray) (at_ c : Int) : RO G 10 [.iface 85 (.pointer (some ⟨b, 0, none⟩))] (FaultR b op at_ c) (.int .i64 c) := by
  refine RO.enter Tryd.func10 rfl (by decide) rfl Tryd.ntmps10 rfl (fun A hu hA => ?_) (up_FaultR _ _ _ _)
  repeat (first | refine GO ?_ | refine NW fun _ => ?_)
  rename_i p
  refine WL.step rfl (OP.call (pre := [blk p [.int .i64 0] 29, A]) rfl rfl (as_code b p op at_ c (.int .i64 0) A hu (fun h x => (hA h x).1) (fun h x => (hA h x).2)) PS rfl rfl ?_)
  rintro _ _ ⟨rfl, rfl⟩
  repeat (first | refine GO ?_ | refine NW fun _ => ?_)
  exact ret1 rfl ⟨rfl, MM⟩
def Ptrs (l : List Value) (v : Value) (E : List Assn) : Prop := ∃ a cap, v = .slice a l.length cap ∧ E = [ownS a l.length cap 85 1 l]
set_option maxRecDepth 10000 in
theorem faults_nil : RT G 46 [.nilIface] (fun _ => True) (fun v E => v = .slice none 0 0 ∧ E = []) := by
  refine RT.enter Tryd.func46 rfl (by decide) rfl Tryd.ntmps46 rfl (fun A hu hA => ?_)
  repeat (first | refine GO ?_ | refine NW fun _ => ?_)
  rename_i p
  refine WC.loop (σ := Unit) (fun _ => True) (fun _ => [(0, .val .nilIface), (3, .val (.slice none 0 0)), (4, .val (.pointer (some ⟨p, 0, none⟩)))]) (fun _ => [A]) (fun _ => 0) () trivial ⟨rfl, rfl, rfl, trivial⟩ II ?_
  rintro _ _
  repeat (first | refine GO ?_ | refine NW fun _ => ?_)
  refine WL.step rfl (OP.callRO rfl rfl (as_nil _) (fun _ _ => trivial) rfl rfl ?_)
  repeat (first | refine GO ?_ | refine NW fun _ => ?_)
  exact ret1 rfl ⟨[], ⟨rfl, rfl⟩, II⟩
set_option maxHeartbeats 1000000 in
set_option maxRecDepth 10000 in
theorem faults_one (b : Nat) (op : ByteArray) (at_ c : Int) : RT G 46 [.iface 85 (.pointer (some ⟨b, 0, none⟩))] (FaultR b op at_ c) (Ptrs [.pointer (some ⟨b, 0, none⟩)]) := by
  refine RT.enter Tryd.func46 rfl (by decide) rfl Tryd.ntmps46 rfl (fun A hu hA => ?_)
  repeat (first | refine GO ?_ | refine NW fun _ => ?_)
  rename_i p
  refine WC.imp (Imp.nilS 85 1) ?_
  refine WC.loop (σ := Bool × Option Addr × Nat) (fun s => s.1 = true → s.2.1 = none ∧ s.2.2 = 0) (fun s => match s.1 with
      | true => [(0, .val (.iface 85 (.pointer (some ⟨b, 0, none⟩)))), (3, .val (.slice none 0 0)), (4, .val (.pointer (some ⟨p, 0, none⟩)))]
      | false => [(0, .val (.iface 29 (.int .i64 c))), (3, .val (.slice s.2.1 1 s.2.2)), (4, .val (.pointer (some ⟨p, 0, none⟩)))])
    (fun s => match s.1 with
      | true => [blk p [.pointer none] 85, ownS none 0 0 85 1 [], A]
      | false => [blk p [.pointer (some ⟨b, 0, none⟩)] 85, ownS s.2.1 1 s.2.2 85 1 [.pointer (some ⟨b, 0, none⟩)], A])
    (fun s => match s.1 with | true => 1 | false => 0) (true, none, 0) (fun _ => ⟨rfl, rfl⟩) ⟨rfl, rfl, rfl, trivial⟩ II ?_
  rintro ⟨s, a, cap⟩ hs
  cases s
  · dsimp only at hs ⊢
    repeat (first | refine GO ?_ | refine NW fun _ => ?_)
    refine WL.step rfl (OP.call (pre := [blk p [.pointer (some ⟨b, 0, none⟩)] 85, A]) rfl rfl (as_faultsN p c _ A hu (fun h x => (hA h x).1)) PS rfl rfl ?_)
    rintro _ _ ⟨rfl, rfl⟩
    repeat (first | refine GO ?_ | refine NW fun _ => ?_)
    exact ret1 rfl ⟨[_], ⟨a, cap, rfl, rfl⟩, II⟩
  · dsimp only at hs ⊢
    repeat (first | refine GO ?_ | refine NW fun _ => ?_)
    refine WL.step rfl (OP.call (pre := [blk p [.pointer none] 85, A]) rfl rfl (as_faults b p _ A hu (fun h x => (hA h x).1)) PS rfl rfl ?_)
    rintro _ _ ⟨rfl, rfl⟩
    repeat (first | refine GO ?_ | refine NW fun _ => ?_)
    refine WL.step rfl (OP.append rfl rfl rfl rfl rfl rfl rfl rfl rfl P1 (Ent.own MM) rfl (by decide) (by decide) rfl rfl (fun a2 cap2 => ?_))
    repeat (first | refine GO ?_ | refine NW fun _ => ?_)
    refine WL.step rfl (OP.load1 (v := .iface 29 (.int .i64 c)) rfl rfl rfl rfl (Ent.mem (A := A) MM hu (fun h x => cellsAt_one (i := 2) (hA h x).2 rfl)) rfl rfl ?_)
    repeat (first | refine GO ?_ | refine NW fun _ => ?_)
    exact ⟨(false, a2, cap2), (fun h => nomatch h), Nat.zero_lt_one, ⟨rfl, rfl, rfl, trivial⟩, II⟩
set_option maxHeartbeats 1000000 in
set_option maxRecDepth 10000 in
theorem first_nil (op : ByteArray) : RO G 20 [.nilIface, .string op] (fun _ => True) (.tuple #[.int .i64 0, .bool false]) := by
  refine RO.enter Tryd.func20 rfl (by decide) rfl Tryd.ntmps20 rfl (fun A hu hA => ?_) (fun _ _ _ h => h)
  repeat (first | refine GO ?_ | refine NW fun _ => ?_)
  refine WL.step rfl (OP.callRT rfl rfl faults_nil (fun _ _ => trivial) rfl rfl ?_)
  rintro v E ⟨rfl, rfl⟩
  repeat (first | refine GO ?_ | refine NW fun _ => ?_)
  refine WC.loop (σ := Unit) (fun _ => True) (fun _ => [(10, .val (.int .i64 0)), (11, .val (.int .i64 0))]) (fun _ => [A]) (fun _ => 0) () trivial ⟨rfl, rfl, trivial⟩ II ?_
  rintro _ _
  repeat (first | refine GD ?_ | refine NW fun _ => ?_)
  exact ret2 rfl rfl ⟨rfl, MM⟩
set_option maxHeartbeats 1000000 in
set_option maxRecDepth 10000 in
theorem first_fault (b : Nat) (op op' : ByteArray) (at_ c : Int) : RO G 20 [.iface 85 (.pointer (some ⟨b, 0, none⟩)), .string op'] (FaultR b op at_ c) (if op = op' then .tuple #[.int .i64 at_, .bool true] else .tuple #[.int .i64 0, .bool false]) := by
  refine RO.enter Tryd.func20 rfl (by decide) rfl Tryd.ntmps20 rfl (fun A hu hA => ?_) (up_FaultR _ _ _ _)
  repeat (first | refine GO ?_ | refine NW fun _ => ?_)
  refine WL.step rfl (OP.callRT rfl rfl (faults_one b op at_ c) (Ent.mem MM hu hA) rfl rfl ?_)
  rintro v E ⟨a, cap, rfl, rfl⟩
  refine WL.fact (Ent.some (Ent.own (a := a) (n := 1) (cap := cap) (T := 85) (size := 1) (cs := [.pointer (some ⟨b, 0, none⟩)]) MM) (by decide)) ?_
  rintro ⟨b2, off2, rfl⟩
  repeat (first | refine GO ?_ | refine NW fun _ => ?_)
  refine WC.loop (σ := Nat) (fun k => k ≤ 1 ∧ (k = 1 → op ≠ op')) (fun k => [(1, .val (.string op')), (9, .val (.slice (some ⟨b2, off2, none⟩) 1 cap)), (10, .val (.int .i64 1)), (11, .val (.int .i64 k))]) (fun _ => [ownS (some ⟨b2, off2, none⟩) 1 cap 85 1 [.pointer (some ⟨b, 0, none⟩)], A]) (fun k => 1 - k) 0 ⟨by decide, (fun h => absurd h (by decide))⟩ ⟨rfl, rfl, rfl, rfl, trivial⟩ II ?_
  rintro k ⟨hk, hne⟩
  obtain rfl | rfl : k = 0 ∨ k = 1 := by omega
  · repeat (first | refine GD ?_ | refine NW fun _ => ?_)
    refine WL.step rfl (OP.load1 (v := .pointer (some ⟨b, 0, none⟩)) rfl rfl rfl rfl (Ent.elem (i := 0) (Ent.own (T := 85) MM) rfl rfl) rfl rfl ?_)
    repeat (first | refine GD ?_ | refine NW fun _ => ?_)
    refine WL.step rfl (OP.load1 (v := .string op) rfl rfl rfl rfl (Ent.mem (A := A) MM hu (fun h x => cellsAt_one (i := 0) (hA h x).2 rfl)) rfl rfl ?_)
    by_cases ho : op = op'
    · rw [if_pos ho]
      repeat (first | refine GD ?_ | refine NW fun _ => ?_)
      refine WL.step rfl (OP.load1 (v := .int .i64 at_) rfl rfl rfl rfl (Ent.mem (A := A) MM hu (fun h x => cellsAt_one (i := 1) (hA h x).2 rfl)) rfl rfl ?_)
      repeat (first | refine GD ?_ | refine NW fun _ => ?_)
      exact ret2 rfl rfl ⟨rfl, MM⟩
    · rw [if_neg ho]
      repeat (first | refine GD ?_ | refine NW fun _ => ?_)
      exact ⟨1, ⟨by decide, fun _ => ho⟩, by decide, ⟨rfl, rfl, rfl, rfl, trivial⟩, Imp.refl _⟩
  · rw [if_neg (hne rfl)]
    repeat (first | refine GD ?_ | refine NW fun _ => ?_)
    exact ret2 rfl rfl ⟨rfl, MM⟩
end Go.Proofs.YtkoakmaihcheaabDoor
/- Contracts of functions of the given program, and plain laws on what they compute: parts of the proofs of laws. -/

namespace Go.Proofs.YtkoakmaihcheaabDoor
open Go Go.GL

set_option maxRecDepth 10000 in
theorem put_nil (c : Ch) : RT G 48 [.pointer none, .agg (encC c).toArray] (fun _ => True) (Fault member 0 11) := by
  refine RT.enter Tryd.func48 rfl (by decide) rfl Tryd.ntmps48 rfl (fun A hu hA => ?_)
  repeat (first | refine GO ?_ | refine NW fun _ => ?_)
  refine WL.step rfl (OP.call (pre := []) (F := _) rfl rfl (wrong_ok _ _ (by decide)) (Imp.refl _) rfl rfl ?_)
  rintro v' E ⟨b', rfl, rfl⟩
  repeat (first | refine GO ?_ | refine NW fun _ => ?_)
  exact ret1 rfl ⟨[_], ⟨b', rfl, rfl⟩, II⟩
set_option maxRecDepth 10000 in
theorem add_nil (v m : Int) : RT G 25 [.pointer none, .int .i64 v, .int .i64 m] (fun _ => True) (Fault member 0 11) := by
  refine RT.enter Tryd.func25 rfl (by decide) rfl Tryd.ntmps25 rfl (fun A hu hA => ?_)
  repeat (first | refine GO ?_ | refine NW fun _ => ?_)
  refine WL.step rfl (OP.callRT rfl rfl (put_nil (m, v, false)) (fun _ _ => trivial) rfl rfl ?_)
  rintro v' E ⟨b', rfl, rfl⟩
  repeat (first | refine GO ?_ | refine NW fun _ => ?_)
  exact ret1 rfl ⟨[_], ⟨b', rfl, rfl⟩, II⟩
set_option maxRecDepth 10000 in
theorem remove_nil (v m : Int) : RT G 27 [.pointer none, .int .i64 v, .int .i64 m] (fun _ => True) (Fault member 0 11) := by
  refine RT.enter Tryd.func27 rfl (by decide) rfl Tryd.ntmps27 rfl (fun A hu hA => ?_)
  repeat (first | refine GO ?_ | refine NW fun _ => ?_)
  refine WL.step rfl (OP.callRT rfl rfl (put_nil (m, v, true)) (fun _ _ => trivial) rfl rfl ?_)
  rintro v' E ⟨b', rfl, rfl⟩
  repeat (first | refine GO ?_ | refine NW fun _ => ?_)
  exact ret1 rfl ⟨[_], ⟨b', rfl, rfl⟩, II⟩
set_option maxRecDepth 10000 in
theorem at_nil (m : Int) : RO G 11 [.pointer none, .int .i64 m] (fun _ => True) (.slice none 0 0) := by
  refine RO.enter Tryd.func11 rfl (by decide) rfl Tryd.ntmps11 rfl (fun A hu hA => ?_) (fun _ _ _ h => h)
  repeat (first | refine GO ?_ | refine NW fun _ => ?_)
  exact ret1 rfl ⟨rfl, MM⟩
set_option maxRecDepth 10000 in
theorem now_nil : RO G 30 [.pointer none] (fun _ => True) (.slice none 0 0) := by
  refine RO.enter Tryd.func30 rfl (by decide) rfl Tryd.ntmps30 rfl (fun A hu hA => ?_) (fun _ _ _ h => h)
  repeat (first | refine GO ?_ | refine NW fun _ => ?_)
  exact ret1 rfl ⟨rfl, MM⟩
set_option maxRecDepth 10000 in
theorem bytes_nilG : RO G 14 [.pointer none] (fun _ => True) (.slice none 0 0) := by
  refine RO.enter Tryd.func14 rfl (by decide) rfl Tryd.ntmps14 rfl (fun A hu hA => ?_) (fun _ _ _ h => h)
  repeat (first | refine GO ?_ | refine NW fun _ => ?_)
  exact ret1 rfl ⟨rfl, MM⟩
set_option maxRecDepth 10000 in
theorem last_nil : RO G 15 [.pointer none] (fun _ => True) (.int .i64 0) := by
  refine RO.enter Tryd.func15 rfl (by decide) rfl Tryd.ntmps15 rfl (fun A hu hA => ?_) (fun _ _ _ h => h)
  repeat (first | refine GO ?_ | refine NW fun _ => ?_)
  exact ret1 rfl ⟨rfl, MM⟩
set_option maxHeartbeats 1000000 in
set_option maxRecDepth 10000 in
theorem place_nil (at' f' : Int) : RO G 24 [.nilIface, .int .i64 at', .int .i64 f'] (fun _ => True) (.bool (decide (f' = 0))) := by
  refine RO.enter Tryd.func24 rfl (by decide) rfl Tryd.ntmps24 rfl (fun A hu hA => ?_) (fun _ _ _ h => h)
  repeat (first | refine GO ?_ | refine NW fun _ => ?_)
  refine WL.step rfl (OP.callRO rfl rfl (first_nil _) (fun _ _ => trivial) rfl rfl ?_)
  repeat (first | refine GO ?_ | refine NW fun _ => ?_)
  refine WL.step rfl (OP.callRO rfl rfl code_nil (fun _ _ => trivial) rfl rfl ?_)
  by_cases hf : f' = 0
  · have h0 : (0 : Int) = f' := hf.symm
    have h1 : ¬ (f' ≠ 0) := fun h => h hf
    repeat (first | refine GD ?_ | refine NW fun _ => ?_)
    exact ret1 rfl ⟨by simp [hf], MM⟩
  · have h0 : ¬ (0 : Int) = f' := fun h => hf h.symm
    repeat (first | refine GD ?_ | refine NW fun _ => ?_)
    exact ret1 rfl ⟨by simp [hf], MM⟩
set_option maxHeartbeats 1000000 in
set_option maxRecDepth 10000 in
theorem place_fault (b : Nat) (at_ c at' f' : Int) (hc : c ≠ 0) : RO G 24 [.iface 85 (.pointer (some ⟨b, 0, none⟩)), .int .i64 at', .int .i64 f'] (FaultR b member at_ c) (.bool (decide (c = f' ∧ at_ = at'))) := by
  refine RO.enter Tryd.func24 rfl (by decide) rfl Tryd.ntmps24 rfl (fun A hu hA => ?_) (up_FaultR _ _ _ _)
  have hfirst := first_fault b member member at_ c
  rw [if_pos rfl] at hfirst
  repeat (first | refine GO ?_ | refine NW fun _ => ?_)
  refine WL.step rfl (OP.callRO rfl rfl hfirst (Ent.mem MM hu hA) rfl rfl ?_)
  repeat (first | refine GO ?_ | refine NW fun _ => ?_)
  refine WL.step rfl (OP.callRO rfl rfl (code_fault b member at_ c) (Ent.mem MM hu hA) rfl rfl ?_)
  by_cases hf : c = f'
  · have hf0 : ¬ f' = 0 := fun h => hc (hf.trans h)
    by_cases ha : at_ = at'
    · repeat (first | refine GD ?_ | refine NW fun _ => ?_)
      exact ret1 rfl ⟨by simp [hf, ha], MM⟩
    · repeat (first | refine GD ?_ | refine NW fun _ => ?_)
      exact ret1 rfl ⟨by simp [ha], MM⟩
  · repeat (first | refine GD ?_ | refine NW fun _ => ?_)
    exact ret1 rfl ⟨by simp [hf], MM⟩
set_option maxHeartbeats 1000000 in
set_option maxRecDepth 10000 in
theorem mnil_ro (v m : Int) : RO G 6 [.int .i64 v, .int .i64 m] ErrT (.bool true) := by
  refine RO.enter Tryd.func6 rfl (by decide) rfl Tryd.ntmps6 rfl (fun A hu hA => ?_) up_ErrT
  repeat (first | refine GO ?_ | refine NW fun _ => ?_)
  refine WL.step rfl (OP.callRO rfl rfl awake_ro (fun _ _ => trivial) rfl rfl ?_)
  repeat (first | refine GD ?_ | refine NW fun _ => ?_)
  refine WL.step rfl (OP.callRT rfl rfl (add_nil v m) (fun _ _ => trivial) rfl rfl ?_)
  rintro v' E ⟨b1, rfl, rfl⟩
  have hp1 := place_fault b1 0 11 0 11 (by decide)
  rw [decide_eq_true (show (11 : Int) = 11 ∧ (0 : Int) = 0 from ⟨rfl, rfl⟩)] at hp1
  repeat (first | refine GD ?_ | refine NW fun _ => ?_)
  refine WL.step rfl (OP.callRO rfl rfl hp1 (Ent.and (Ent.mem MM hu hA) (Ent.whole (c := faultCells member 0 11) (T := 87) MM)) rfl rfl ?_)
  repeat (first | refine GD ?_ | refine NW fun _ => ?_)
  refine WL.guardT rfl rfl rfl rfl (OP.callRT rfl rfl (remove_nil v m) (fun _ _ => trivial) rfl rfl ?_)
  rintro v' E ⟨b2, rfl, rfl⟩
  have hp2 := place_fault b2 0 11 0 11 (by decide)
  rw [decide_eq_true (show (11 : Int) = 11 ∧ (0 : Int) = 0 from ⟨rfl, rfl⟩)] at hp2
  repeat (first | refine GD ?_ | refine NW fun _ => ?_)
  refine WL.guardT rfl rfl rfl rfl (OP.callRO rfl rfl hp2 (Ent.and (Ent.mem MM hu hA) (Ent.whole (c := faultCells member 0 11) (T := 87) MM)) rfl rfl ?_)
  repeat (first | refine GD ?_ | refine NW fun _ => ?_)
  refine WL.guardT rfl rfl rfl rfl (OP.callRO rfl rfl (at_nil m) (fun _ _ => trivial) rfl rfl ?_)
  repeat (first | refine GD ?_ | refine NW fun _ => ?_)
  refine WL.guardT rfl rfl rfl rfl (OP.callRO rfl rfl now_nil (fun _ _ => trivial) rfl rfl ?_)
  repeat (first | refine GD ?_ | refine NW fun _ => ?_)
  refine WL.guardT rfl rfl rfl rfl (OP.callRO rfl rfl bytes_nilG (fun _ _ => trivial) rfl rfl ?_)
  repeat (first | refine GD ?_ | refine NW fun _ => ?_)
  refine WL.guardT rfl rfl rfl rfl (OP.callRO rfl rfl last_nil (fun _ _ => trivial) rfl rfl ?_)
  repeat (first | refine GD ?_ | refine NW fun _ => ?_)
  exact ret1 rfl ⟨rfl, MM⟩
end Go.Proofs.YtkoakmaihcheaabDoor
/- Memory under a name: predicates that hide their addresses; reading out of memory that is lent. -/
namespace Go.GL
open Go
/-- There is an x for which these hold of separate parts. -/
def exA {ι : Type} (Ls : ι → List Assn) : Assn := fun h => ∃ x, stars (Ls x) h
theorem up_exA {ι : Type} (Ls : ι → List Assn) : Up (exA Ls) := fun _ _ l ⟨x, s⟩ => ⟨x, stars_mono l s⟩
theorem stars_open {ι : Type} {Ls : ι → List Assn} {L : List Assn} {h : Hp} (s : stars (exA Ls :: L) h) : ∃ x, stars (Ls x ++ L) h := by
  obtain ⟨x, s⟩ := stars_ex (A := fun x => stars (Ls x)) s
  exact ⟨x, stars_append.2 s⟩
theorem Imp.fold {ι : Type} {Ls : ι → List Assn} (x : ι) {M : List Assn} : Imp (Ls x ++ M) (exA Ls :: M) := fun _ s => stars_head_mono (fun _ hk => ⟨x, hk⟩) (stars_append.1 s)
/-- fold, the parts wherever they are -/
theorem Imp.foldP {ι : Type} {Ls : ι → List Assn} (x : ι) {L N M : List Assn} (p : Picks L (Ls x) N) (i : Imp (exA Ls :: N) M) : Imp L M := (p.imp.trans (Imp.fold x)).trans i
theorem Imp.appL {L M : List Assn} (i : Imp L M) : ∀ (E : List Assn), Imp (E ++ L) (E ++ M)
  | [] => i
  | _ :: E => (Imp.appL i E).cons
theorem Ent.of {A : Assn} {Ls L : List Assn} {R : Assn} (hu : Up A) (hA : ∀ k, A k → stars Ls k) (m : A ∈ L) (e : Ent Ls R) : Ent L R := Ent.mem m hu fun k a => e k (hA k a)
theorem Ent.at {A : Assn} {L : List Assn} (hu : Up A) (m : A ∈ L) : Ent L A := Ent.mem m hu fun _ a => a
theorem Ent.ofImp {L M : List Assn} (i : Imp L M) : Ent L (stars M) := fun h s => i h s
theorem Ent.ex {ι : Type} {Ls : ι → List Assn} {L : List Assn} (m : exA Ls ∈ L) : Ent L (exA Ls) := Ent.mem m (up_exA _) fun _ a => a
theorem Ent.exI {ι : Type} {Ls : ι → List Assn} {L : List Assn} (x : ι) (i : Imp L (Ls x)) : Ent L (exA Ls) := fun h s => ⟨x, i h s⟩
section
variable {G : Ctx} {N : Nat} {env : Env} {L M S : List Assn} {k : Kont} {ops : Array Oper} {rest : List Oper} {o : Oper} {c : Code} {ι : Type} {Ls : ι → List Assn}
theorem WC.open (i : Imp L (exA Ls :: M)) (h : ∀ x, WC G N c env (Ls x ++ M) k) : WC G N c env L k := .mk fun a w ha hs => by
  obtain ⟨x, s⟩ := stars_open (i.sat hs)
  exact (h x) a w ha s
theorem WL.open (i : Imp L (exA Ls :: M)) (h : ∀ x, WL G N ops rest env (Ls x ++ M) k) : WL G N ops rest env L k := .mk fun a w ha hs => by
  obtain ⟨x, s⟩ := stars_open (i.sat hs)
  exact (h x) a w ha s
theorem OP.open {post : Env → List Assn → Prop} (i : Imp L (exA Ls :: M)) (h : ∀ x, OP G N o env (Ls x ++ M) post) : OP G N o env L post := .mk fun a w ha hs => by
  obtain ⟨x, s⟩ := stars_open (i.sat hs)
  exact (h x) a w ha s
theorem RO.enterEx {f : FuncId} {fn : Func} {c : Code} {vs : List Value} {rs : List ResultVar} {v : Value} (hf : G.P.funcs[f]? = some fn) (hb : fn.body = some c) (hname : (fn.name == "runtime.NumGoroutine") = false) (hr : fn.results = rs.toArray) (hn : fn.ntmps = N)
    (hv : Nat.ble vs.length N = true) (h : ∀ x A, Up A → (∀ k, A k → stars (Ls x) k) → WC G N c (args0 0 vs) [A] (retK G rs (fun v' M => v' = v ∧ A ∈ M))) : RO G f vs (exA Ls) v :=
  ⟨⟨fn, c, hf, hname, hb⟩, fun w ⟨x, hw⟩ => (body_calls hf hb hr hn hv (h x (old w) (up_old w) (fun _ l => stars_mono l hw)) w (Sat.old w)).mono fun _ _ ⟨_, _, e, ⟨e1, e2⟩, s⟩ => ⟨by rw [e, e1], ext_of_old e2 s⟩⟩
theorem RT.enterEx {f : FuncId} {fn : Func} {c : Code} {vs : List Value} {rs : List ResultVar} {p : Value → List Assn → Prop} (hf : G.P.funcs[f]? = some fn) (hb : fn.body = some c) (hname : (fn.name == "runtime.NumGoroutine") = false) (hr : fn.results = rs.toArray) (hn : fn.ntmps = N)
    (hv : Nat.ble vs.length N = true) (h : ∀ x A, Up A → (∀ k, A k → stars (Ls x) k) → WC G N c (args0 0 vs) [A] (retK G rs (fun v M => ∃ E, p v E ∧ Imp M (E ++ [A])))) : RT G f vs (exA Ls) p := by
  refine ⟨⟨fn, c, hf, hname, hb⟩, fun M w he hs => ?_⟩
  obtain ⟨x, hx⟩ := he _ hs
  refine (body_calls hf hb hr hn hv (h x (fun k => stars M k ∧ stars (Ls x) k) (up_and (up_stars _) (up_stars _)) (fun _ a => a.2)) w (stars_one.1 hs |> fun _ => ?_)).mono ?_
  · exact ⟨hpOf w, Hp.empty, fun _ => .inr rfl, by funext b; simp [Hp.join, Hp.empty], ⟨hs, hx⟩, trivial⟩
  · rintro _ w' ⟨v, L, e, ⟨E, h1, h2⟩, s⟩
    exact ⟨v, E, e, h1, stars_app_one.2 (Imp.appL (fun _ s => stars_head_mono (fun _ a => a.1) s) E _ (h2 _ s))⟩
/-- a test parts the ways -/
theorem WC.split {c : Operand} {x y : Code} {p : Prop} [Decidable p] (hc : rd none env c = some (none, .bool (decide p))) (ht : p → WC G N x env L k) (hf : ¬ p → WC G N y env L k) : WC G N (.cond c x y) env L k :=
  .cond hc (fun h => ht (of_decide_eq_true h)) (fun h => hf (of_decide_eq_false h))
theorem WC.splitN {c : Operand} {x y : Code} {p : Prop} [Decidable p] (hc : rd none env c = some (none, .bool (!decide p))) (ht : ¬ p → WC G N x env L k) (hf : p → WC G N y env L k) : WC G N (.cond c x y) env L k :=
  .cond hc (fun h => ht (by simpa using h)) (fun h => hf (by simpa using h))
end
/-! ### elements of several cells -/
theorem flat_len {α : Type} {f : α → List Value} {z : Nat} (hz : ∀ x, (f x).length = z) : ∀ (l : List α), (l.flatMap f).length = l.length * z
  | [] => by simp
  | x :: l => by rw [List.flatMap_cons, List.length_append, hz, flat_len hz l, List.length_cons, Nat.succ_mul, Nat.add_comm]
theorem flat_drop {α : Type} {f : α → List Value} {z : Nat} (hz : ∀ x, (f x).length = z) : ∀ (l : List α) (k : Nat), (l.flatMap f).drop (k * z) = (l.drop k).flatMap f
  | [], k => by simp
  | x :: l, 0 => by simp
  | x :: l, k + 1 => by
    rw [List.flatMap_cons, List.drop_succ_cons, ← flat_drop hz l k, Nat.succ_mul, Nat.add_comm, ← List.drop_drop]
    congr 1
    rw [List.drop_append_of_le_length (by rw [hz]; exact Nat.le_refl _), List.drop_eq_nil_of_le (by rw [hz]; exact Nat.le_refl _), List.nil_append]
theorem flat_take {α : Type} {f : α → List Value} {z : Nat} (hz : ∀ x, (f x).length = z) : ∀ (l : List α) (k : Nat), (l.flatMap f).take (k * z) = (l.take k).flatMap f
  | [], k => by simp
  | x :: l, 0 => by simp
  | x :: l, k + 1 => by
    rw [List.flatMap_cons, List.take_succ_cons, List.flatMap_cons, ← flat_take hz l k, Nat.succ_mul, Nat.add_comm, List.take_append, List.take_of_length_le (by rw [hz]; omega), hz]
    congr 2
    omega
theorem flat_cut {α : Type} {f : α → List Value} {z : Nat} (hz : ∀ x, (f x).length = z) (l : List α) (k : Nat) (h : k < l.length) : f l[k] = ((l.flatMap f).drop (k * z)).take z := by
  rw [flat_drop hz, List.drop_eq_getElem_cons h, List.flatMap_cons, List.take_append_of_le_length (by rw [hz]; exact Nat.le_refl _), List.take_of_length_le (by rw [hz]; exact Nat.le_refl _)]
theorem flat_get {α : Type} {f : α → List Value} {z : Nat} (hz : ∀ x, (f x).length = z) (l : List α) (k j : Nat) (h : k < l.length) (hj : j < z) : (l.flatMap f)[k * z + j]? = (f l[k])[j]? := by
  rw [flat_cut hz l k h, List.getElem?_take, if_pos hj, List.getElem?_drop]
theorem flat_set {α : Type} {f : α → List Value} {z : Nat} (hz : ∀ x, (f x).length = z) : ∀ (l : List α) (k : Nat) (x : α), k < l.length → setMany (l.flatMap f) (k * z) (f x) = some ((l.set k x).flatMap f) := by
  intro l k x h
  have h1 : l.flatMap f = (l.take k).flatMap f ++ f l[k] ++ (l.drop (k + 1)).flatMap f := by
    conv => lhs; rw [← List.take_append_drop k l, List.drop_eq_getElem_cons h]
    rw [List.flatMap_append, List.flatMap_cons, List.append_assoc]
  have h2 : (l.set k x).flatMap f = (l.take k).flatMap f ++ f x ++ (l.drop (k + 1)).flatMap f := by
    rw [List.set_eq_take_append_cons_drop, if_pos h, List.flatMap_append, List.flatMap_cons, List.append_assoc]
  rw [h2, h1]
  have h3 := setMany_mid (f x) ((l.take k).flatMap f) (f l[k]) ((l.drop (k + 1)).flatMap f) (by rw [hz, hz])
  rw [flat_len hz, List.length_take, Nat.min_eq_left (by omega)] at h3
  exact h3
/-- a field of an element of a slice that is read -/
theorem Ent.elF {L : List Assn} {α : Type} {f : α → List Value} {z : Nat} (hz : ∀ x, (f x).length = z) {l : List α} {n k j b off : Nat} {v : Value} (hr : Ent L (readS (Option.some ⟨b, off, Option.none⟩) n z (l.flatMap f))) (h : k < l.length) (hj : Nat.blt j z = true) (hv : (f l[k])[j]? = Option.some v) :
    Ent L (cellAt b (off + k * z + j) v) := by
  rw [Nat.add_assoc]
  exact Ent.elem hr rfl ((flat_get hz l k j h (by simpa [Nat.blt_eq] using hj)).trans hv)
/-- an element as a whole -/
theorem Ent.elA {L : List Assn} {α : Type} {f : α → List Value} {z : Nat} (hz : ∀ x, (f x).length = z) {l : List α} {n k b off : Nat} (hr : Ent L (readS (Option.some ⟨b, off, Option.none⟩) n z (l.flatMap f))) (h : k < l.length) :
    Ent L (cellsAt b (off + k * z) (f l[k])) := Ent.elems hr rfl (by rw [hz]; exact flat_cut hz l k h)
theorem Ent.ofOwn {L : List Assn} {a : Option Addr} {n cap : Nat} {T : TypeId} {size : Nat} {cs : List Value} (m : ownS a n cap T size cs ∈ L) : Ent L (readS a n size cs) := Ent.own m
end Go.GL
