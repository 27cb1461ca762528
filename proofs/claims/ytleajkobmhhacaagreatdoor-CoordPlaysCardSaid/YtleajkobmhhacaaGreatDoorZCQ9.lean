/- Contracts of functions of the given program, and plain laws: parts of the proofs of laws. -/
import Derived.Test.YtleajkobmhhacaaGreatDoorZCQ4
import Derived.Test.YtleajkobmhhacaaGreatDoorZCQ8
import Derived.Test.YtleajkobmhhacaaGreatDoorZCQ5
import Derived.Test.YtleajkobmhhacaaGreatDoorZCQ7
/- Contracts of functions of the given program, and plain laws on what they compute: parts of the proofs of laws. -/

namespace Go.Proofs.YtleajkobmhhacaaGreatDoor
open Go Go.GL

abbrev Ch := Int × Int × Bool
def encC (c : Ch) : List Value := [.int .i64 c.1, .int .i64 c.2.1, .bool c.2.2]
def encL (l : List Ch) : List Value := l.flatMap encC
theorem encL_length (l : List Ch) : (encL l).length = l.length * 3 := by
  induction l with
  | nil => rfl
  | cons c r ih => simp only [encL, List.flatMap_cons, List.length_append, List.length_cons] at *; rw [ih]; simp [encC]; omega
theorem encL_at (l : List Ch) (k : Nat) (h : k < l.length) : encC l[k] = ((encL l).drop (k * 3)).take 3 := by
  induction l generalizing k with
  | nil => simp at h
  | cons c r ih =>
    cases k with
    | zero => simp [encL, encC]
    | succ k =>
      have e : (k + 1) * 3 = 3 + k * 3 := by omega
      have := ih k (by simpa using h)
      simp only [encL, List.flatMap_cons, List.getElem_cons_succ] at *
      rw [this, e, ← List.drop_drop]
      simp [encC]
theorem encL_get (l : List Ch) (k j : Nat) (h : k < l.length) (hj : j < 3) : (encL l)[k * 3 + j]? = (encC l[k])[j]? := by
  rw [encL_at l k h, List.getElem?_take, if_pos hj, List.getElem?_drop]
theorem encL_snoc (l : List Ch) (c : Ch) : encL (l ++ [c]) = encL l ++ encC c := by simp [encL]
def step (s : List Bool) (c : Ch) : List Bool := s.set c.2.1.toNat (!c.2.2)
/-- who belongs behind some changes -/
def after (f : List Bool) (l : List Ch) : List Bool := l.foldl step f
theorem after_length (f : List Bool) (l : List Ch) : (after f l).length = f.length := by
  induction l generalizing f with
  | nil => rfl
  | cons c r ih => simp only [after, List.foldl_cons] at *; rw [ih]; simp [step]
theorem after_snoc (f : List Bool) (l : List Ch) (c : Ch) : after f (l ++ [c]) = step (after f l) c := by simp [after]
theorem four {f : List Bool} (h : f.length = 4) : ∃ a b c d, f = [a, b, c, d] := by
  match f, h with
  | [a, b, c, d], _ => exact ⟨a, b, c, d, rfl⟩
def grpR (p : Nat) (a : Option Addr) (cap : Nat) (f : List Bool) (ch : List Ch) : Assn := fun h => cellsAt p 0 (bools f ++ [.slice a ch.length cap]) h ∧ readS a ch.length 3 (encL ch) h
theorem up_grpR (p : Nat) (a : Option Addr) (cap : Nat) (f : List Bool) (ch : List Ch) : Up (grpR p a cap f ch) := fun h k l ⟨x, y⟩ => ⟨up_cellsAt _ _ _ h k l x, up_readS _ _ _ _ h k l y⟩
/-- the volumes of the changes are such -/
def Vols (ch : List Ch) : Prop := ∀ c ∈ ch, 0 ≤ c.2.1 ∧ c.2.1 < 4

set_option maxRecDepth 10000 in
theorem behind_ro (p : Nat) (a : Option Addr) (cap : Nat) (f : List Bool) (ch : List Ch) (many : Nat) (hf : f.length = 4) (hv : Vols ch) (hm : many ≤ ch.length) (hc : ch.length ≤ cap) (hs : ch.length < 1000000) :
    RO G 100 [.pointer (some ⟨p, 0, none⟩), .int .i64 many] (grpR p a cap f ch) (.agg (bools (after f (ch.take many))).toArray) := by
  refine RO.enter Tryz.func100 rfl (by decide) rfl Tryz.ntmps100 rfl (fun A hu hA => ?_) (up_grpR _ _ _ _ _)
  have hE1 : ∀ {L}, A ∈ L → Ent L (cellsAt p 0 (bools f ++ [.slice a ch.length cap])) := fun m => Ent.mem m hu fun k x => (hA k x).1
  have hE2 : ∀ {L}, A ∈ L → Ent L (readS a ch.length 3 (encL ch)) := fun m => Ent.mem m hu fun k x => (hA k x).2
  obtain ⟨f0, f1, f2, f3, rfl⟩ := four hf
  repeat (first | refine GO ?_ | refine NW fun _ => ?_)
  refine WL.step rfl (OP.loadA (l := bools [f0, f1, f2, f3]) rfl rfl rfl rfl (Ent.sub (i := 0) (hE1 MM) rfl) rfl rfl rfl ?_)
  repeat (first | refine GO ?_ | refine NW fun _ => ?_)
  refine WL.step rfl (OP.load1 (v := .slice a ch.length cap) rfl rfl rfl rfl (Ent.one (i := 4) (hE1 MM) rfl) rfl rfl ?_)
  repeat (first | refine GO ?_ | refine NW fun _ => ?_)
  rename_i r q
  refine WC.loop (σ := Nat) (fun k => k ≤ many)
    (fun k => [(4, .val (.pointer (some ⟨r, 0, none⟩))), (5, .val (.pointer (some ⟨q, 0, none⟩))), (17, .val (.slice a many cap)), (18, .val (.int .i64 many)), (19, .val (.int .i64 k))])
    (fun k => [blk q (bools (after [f0, f1, f2, f3] (ch.take k))) 182, blk r (bools [false, false, false, false]) 182, A]) (fun k => many - k) 0 (Nat.zero_le _) ⟨rfl, rfl, rfl, rfl, rfl, trivial⟩ (Imp.refl _) ?_
  rintro k hk
  obtain ⟨s0, s1, s2, s3, hsv⟩ := four (show (after [f0, f1, f2, f3] (ch.take k)).length = 4 by rw [after_length]; rfl)
  rw [hsv]
  repeat (first | refine GO ?_ | refine NW fun _ => ?_)
  refine WC.cond rfl (fun hb => ?_) (fun hb => ?_)
  · have hb : k < many := by simpa using hb
    have hkl : k < ch.length := by omega
    repeat (first | refine GO ?_ | refine NW fun _ => ?_)
    refine WL.fact (Ent.some (hE2 MM) (by omega)) ?_
    rintro ⟨b, off, rfl⟩
    repeat (first | refine GO ?_ | refine NW fun _ => ?_)
    refine WL.step rfl (OP.loadA (l := encC ch[k]) rfl rfl rfl rfl (Ent.elems (hE2 MM) rfl (encL_at _ _ hkl)) rfl rfl rfl ?_)
    have htake : ch.take (k + 1) = ch.take k ++ [ch[k]] := by rw [List.take_succ_eq_append_getElem hkl]
    obtain ⟨v0, v1⟩ := hv ch[k] (List.getElem_mem _)
    have hst := after_snoc [f0, f1, f2, f3] (ch.take k) ch[k]
    rw [← htake, hsv] at hst
    generalize ch[k] = c at *
    obtain ⟨cm, cv, cg⟩ := c
    dsimp only at v0 v1
    obtain rfl | rfl | rfl | rfl : cv = 0 ∨ cv = 1 ∨ cv = 2 ∨ cv = 3 := by omega
    all_goals
      repeat (first | refine GO ?_ | refine NW fun _ => ?_)
      exact ⟨k + 1, by omega, by omega, ⟨rfl, rfl, rfl, rfl, rfl, trivial⟩, by rw [hst]; exact II⟩
  · have hb : k = many := by simp at hb; omega
    subst hb
    repeat (first | refine GO ?_ | refine NW fun _ => ?_)
    refine retA (l := bools [s0, s1, s2, s3]) rfl rfl rfl rfl (HasCut.ent (n := 4) HC).1 ⟨?_, MM⟩
    rw [hsv]
end Go.Proofs.YtleajkobmhhacaaGreatDoor
/- Contracts of functions of the given program, and plain laws on what they compute: parts of the proofs of laws. -/

namespace Go.Proofs.YtleajkobmhhacaaGreatDoor
open Go Go.GL

/-- the places at which a set has 'true' -/
def listM (f : List Bool) : List Int := ((List.range f.length).filter (fun i => f.getD i false)).map Int.ofNat
def listP (f : List Bool) (k : Nat) : List Int := ((List.range k).filter (fun i => f.getD i false)).map Int.ofNat
theorem listP_succ (f : List Bool) (k : Nat) : listP f (k + 1) = if f.getD k false = true then listP f k ++ [(k : Int)] else listP f k := by
  unfold listP
  rw [List.range_succ, List.filter_append, List.map_append]
  rw [List.filter_cons, List.filter_nil]
  split <;> simp
theorem listP_len (f : List Bool) (k : Nat) : (listP f k).length ≤ k := by
  unfold listP
  rw [List.length_map]
  exact Nat.le_trans (List.length_filter_le _ _) (by simp)
/-- a fresh slice of whole numbers -/
def Ints (l : List Int) (v : Value) (E : List Assn) : Prop := ∃ a cap, v = .slice a l.length cap ∧ E = [ownS a l.length cap 3 1 (l.map vI)]

set_option maxRecDepth 10000 in
theorem list_ok (f : List Bool) (hf : f.length = 4) : RT G 101 [.agg (bools f).toArray] (fun _ => True) (Ints (listM f)) := by
  obtain ⟨f0, f1, f2, f3, rfl⟩ := four hf
  refine RT.enter Tryz.func101 rfl (by decide) rfl Tryz.ntmps101 rfl (fun A hu hA => ?_)
  repeat (first | refine GO ?_ | refine NW fun _ => ?_)
  refine WC.imp (Imp.trans Imp.drop (Imp.nilS 3 1)) ?_
  refine WC.loop (σ := Nat × Nat × Option Addr × Nat × List Int) (fun s => s.1 ≤ 4 ∧ s.2.2.2.2 = listP [f0, f1, f2, f3] s.1 ∧ s.2.1 = s.2.2.2.2.length)
    (fun s => [(3, .val (.slice s.2.2.1 s.2.1 s.2.2.2.1)), (6, .val (.agg #[.bool f0, .bool f1, .bool f2, .bool f3])), (7, .val (.int .i64 s.1))])
    (fun s => [ownS s.2.2.1 s.2.1 s.2.2.2.1 3 1 (s.2.2.2.2.map vI), A]) (fun s => 4 - s.1) (0, 0, none, 0, []) ⟨by simp, rfl, rfl⟩ ⟨rfl, rfl, rfl, trivial⟩ (Imp.refl _) ?_
  rintro ⟨k, n, a, cap, l⟩ ⟨hk, hl, hn⟩
  dsimp only at hk hl hn ⊢
  have hsucc := listP_succ [f0, f1, f2, f3] k
  have hlen := listP_len [f0, f1, f2, f3] k
  rw [← hl] at hsucc hlen
  obtain rfl | rfl | rfl | rfl | rfl : k = 0 ∨ k = 1 ∨ k = 2 ∨ k = 3 ∨ k = 4 := by omega
  rotate_left 4
  · repeat (first | refine GO ?_ | refine NW fun _ => ?_)
    exact ret1 rfl ⟨[_], ⟨a, cap, by rw [hn, hl]; rfl, by rw [hn, hl]; rfl⟩, Imp.refl _⟩
  all_goals
    repeat (first | refine GO ?_ | refine NW fun _ => ?_)
    refine WC.cond rfl (fun hb => ?_) (fun hb => ?_)
    · subst hb
      repeat (first | refine GO ?_ | refine NW fun _ => ?_)
      refine WL.step rfl (OP.append rfl rfl rfl rfl rfl rfl rfl rfl rfl P1 (Ent.own MM) rfl (by omega) (by omega) rfl rfl (fun a' cap' => ?_))
      repeat (first | refine GO ?_ | refine NW fun _ => ?_)
      exact ⟨(_, _, a', cap', l ++ [_]), ⟨by simp, hsucc.symm, by simp [hn]⟩, by simp, ⟨rfl, rfl, rfl, trivial⟩, by rw [List.map_append]; exact II⟩
    · subst hb
      repeat (first | refine GO ?_ | refine NW fun _ => ?_)
      exact ⟨(_, _, a, cap, l), ⟨by simp, hsucc.symm, hn⟩, by simp, ⟨rfl, rfl, rfl, trivial⟩, Imp.refl _⟩
end Go.Proofs.YtleajkobmhhacaaGreatDoor
/- Contracts of functions of the given program, and plain laws on what they compute: parts of the proofs of laws. -/

namespace Go.Proofs.YtleajkobmhhacaaGreatDoor
open Go Go.GL

/-! a round in memory: a part of a block -/
def ansM (f : Int → Bool) : Int → Option Value := fun k => if f k = true then some (.bool true) else none
def ansO (f : Int → Bool) (number : Int) : Option Nat → Assn
  | none => fun _ => (∀ m, f m = false) ∧ number = 0
  | some r => mapA r (ansM f)
theorem up_ansO (f : Int → Bool) (number : Int) : ∀ (o : Option Nat), Up (ansO f number o)
  | none => fun _ _ _ h => h
  | some r => up_mapA r _
theorem ansM_none : ansM (fun _ => false) = fun _ => none := rfl
theorem ansM_set (f : Int → Bool) (k : Int) : updM (ansM f) k (.bool true) = ansM (setA f k) := by
  funext x
  unfold updM ansM setA
  by_cases h : x = k
  · simp [h]
  · simp [h]
theorem ansM_get (f : Int → Bool) (k : Int) : (ansM f k).getD (.bool false) = .bool (f k) := by
  unfold ansM
  cases f k <;> rfl
def encCmd (c : Cmd) : List Value := [.int .i64 c.1, .int .i64 c.2.1, .int .i64 c.2.2]
theorem encCmd_len (c : Cmd) : (encCmd c).length = 3 := rfl
abbrev RHd := Option Addr × Nat × Option Nat
def rndC (R : Rnd) (x : RHd) : List Value := [.int .i64 R.number, .int .i64 R.latest, .slice x.1 R.vols.length x.2.1, .int .i64 R.phase, .map x.2.2, .int .i64 R.left, .bool R.marked, .int .i64 R.done, .bool R.complete]
def rndL (p : Nat) (T : TypeId) (rest : List Value) (R : Rnd) (x : RHd) : List Assn := [blk p (rndC R x ++ rest) T, ownS x.1 R.vols.length x.2.1 3 1 (R.vols.map vI), ansO R.ans R.number x.2.2]
def rnd (p : Nat) (T : TypeId) (rest : List Value) (R : Rnd) : Assn := exA (rndL p T rest R)
theorem up_rnd (p : Nat) (T : TypeId) (rest : List Value) (R : Rnd) : Up (rnd p T rest R) := up_exA _
theorem rndFold (p : Nat) (T : TypeId) (rest : List Value) (R : Rnd) (x : RHd) {N : List Assn} : Imp (blk p (rndC R x ++ rest) T :: ownS x.1 R.vols.length x.2.1 3 1 (R.vols.map vI) :: ansO R.ans R.number x.2.2 :: N) (rnd p T rest R :: N) := Imp.fold (Ls := rndL p T rest R) x
def CmdsA (l : List Cmd) (v : Value) (E : List Assn) : Prop := ∃ a cap, v = .slice a l.length cap ∧ E = [ownS a l.length cap 60 3 (l.flatMap encCmd)]
set_option maxRecDepth 10000 in
theorem rnumber_ro (p : Nat) (T : TypeId) (rest : List Value) (R : Rnd) : RO G 82 [.pointer (some ⟨p, 0, none⟩)] (rnd p T rest R) (.int .i64 R.number) := by
  refine RO.enterEx Tryz.func82 rfl (by decide) rfl Tryz.ntmps82 rfl (fun x A hu hA => ?_)
  have hB : ∀ {L}, A ∈ L → Ent L (cellsAt p 0 (rndC R x ++ rest)) := fun m => Ent.of hu hA m (Ent.whole (List.Mem.head _))
  repeat (first | refine GD ?_ | refine NW fun _ => ?_)
  refine WL.step rfl (OP.load1 (v := .int .i64 R.number) rfl rfl rfl rfl (Ent.one (i := 0) (hB MM) rfl) rfl rfl ?_)
  repeat (first | refine GD ?_ | refine NW fun _ => ?_)
  exact ret1 rfl ⟨rfl, MM⟩
set_option maxRecDepth 10000 in
theorem rdone_ro (p : Nat) (T : TypeId) (rest : List Value) (R : Rnd) : RO G 90 [.pointer (some ⟨p, 0, none⟩)] (rnd p T rest R) (.tuple #[.int .i64 R.done, .bool R.complete]) := by
  refine RO.enterEx Tryz.func90 rfl (by decide) rfl Tryz.ntmps90 rfl (fun x A hu hA => ?_)
  have hB : ∀ {L}, A ∈ L → Ent L (cellsAt p 0 (rndC R x ++ rest)) := fun m => Ent.of hu hA m (Ent.whole (List.Mem.head _))
  repeat (first | refine GD ?_ | refine NW fun _ => ?_)
  refine RD 10 10 (_) ?_
  refine WP 0 ?_
  refine WP 1 ?_
  refine WP 2 ?_
  refine VL 3 (.int .i64 R.done) rfl rfl rfl rfl (.inl ⟨rfl, Ent.one (i := 7) (hB MM) rfl⟩) ?_
  refine WP 4 ?_
  refine WP 5 ?_
  refine WP 6 ?_
  refine VL 7 (.bool R.complete) rfl rfl rfl rfl (.inl ⟨rfl, Ent.one (i := 8) (hB MM) rfl⟩) ?_
  refine WP 8 ?_
  refine WP 9 ?_
  refine DN ?_
  repeat (first | refine GD ?_ | refine NW fun _ => ?_)
  exact ret2 rfl rfl ⟨rfl, MM⟩
def lacksP (f : Int → Bool) (l : List Int) : List Int := l.filter (fun v => !f v)
theorem lacksP_snoc (f : Int → Bool) (l : List Int) (v : Int) : lacksP f (l ++ [v]) = if f v = true then lacksP f l else lacksP f l ++ [v] := by
  unfold lacksP
  rw [List.filter_append]
  by_cases h : f v = true
  · rw [if_pos h, List.filter_cons_of_neg (by rw [h]; decide)]; simp
  · rw [if_neg h, List.filter_cons_of_pos (by rw [Bool.not_eq_true] at h; rw [h]; rfl)]; rfl
theorem int_at {l : List Int} {k : Nat} (h : k < l.length) : (l.map vI)[k * 1]? = some (vI l[k]) := by simp [h]
set_option maxHeartbeats 2000000 in
set_option maxRecDepth 10000 in
theorem rlacks_rt (p : Nat) (T : TypeId) (rest : List Value) (R : Rnd) (hs : R.vols.length < 1000000) : RT G 161 [.pointer (some ⟨p, 0, none⟩)] (rnd p T rest R) (Ints (lacksM R)) := by
  refine RT.enterEx Tryz.func161 rfl (by decide) rfl Tryz.ntmps161 rfl (fun x A hu hA => ?_)
  have hB : ∀ {L}, A ∈ L → Ent L (cellsAt p 0 (rndC R x ++ rest)) := fun m => Ent.of hu hA m (Ent.whole (List.Mem.head _))
  have hV : ∀ {L}, A ∈ L → Ent L (readS x.1 R.vols.length 1 (R.vols.map vI)) := fun m => Ent.of hu hA m (Ent.own (List.Mem.tail _ (List.Mem.head _)))
  have hO : ∀ {L}, A ∈ L → Ent L (ansO R.ans R.number x.2.2) := fun m => Ent.of hu hA m (Ent.mem (A := ansO R.ans R.number x.2.2) (by unfold rndL; exact MM) (up_ansO _ _ _) (fun _ a => a))
  obtain ⟨va, vc, mo⟩ := x
  dsimp only at hB hV hO ⊢
  have hdef : lacksM R = lacksP R.ans R.vols := rfl
  rw [hdef]
  repeat (first | refine GD ?_ | refine NW fun _ => ?_)
  refine WL.step rfl (OP.load1 (v := .slice va R.vols.length vc) rfl rfl rfl rfl (Ent.one (i := 2) (hB MM) rfl) rfl rfl ?_)
  repeat (first | refine GD ?_ | refine NW fun _ => ?_)
  refine WC.imp (Imp.nilS 3 1) ?_
  refine WC.loop (σ := Nat × Option Addr × Nat) (fun s => s.1 ≤ R.vols.length)
    (fun s => [(0, .val (.pointer (some ⟨p, 0, none⟩))), (3, .val (.slice s.2.1 (lacksP R.ans (R.vols.take s.1)).length s.2.2)), (11, .val (.slice va R.vols.length vc)), (12, .val (.int .i64 R.vols.length)), (13, .val (.int .i64 s.1))])
    (fun s => [ownS s.2.1 (lacksP R.ans (R.vols.take s.1)).length s.2.2 3 1 ((lacksP R.ans (R.vols.take s.1)).map vI), A]) (fun s => R.vols.length - s.1) (0, none, 0) (Nat.zero_le _) ⟨rfl, rfl, rfl, rfl, rfl, trivial⟩ (Imp.refl _) ?_
  rintro ⟨k, a7, cap⟩ hk
  dsimp only at hk ⊢
  by_cases hlt : k < R.vols.length
  rotate_left
  · have he : k = R.vols.length := by omega
    subst he
    rw [List.take_length]
    repeat (first | refine GD ?_ | refine NW fun _ => ?_)
    exact ret1 rfl ⟨_, ⟨a7, cap, rfl, rfl⟩, Imp.refl _⟩
  have hsn : lacksP R.ans (R.vols.take (k + 1)) = if R.ans R.vols[k] = true then lacksP R.ans (R.vols.take k) else lacksP R.ans (R.vols.take k) ++ [R.vols[k]] := by
    rw [← List.take_append_getElem hlt, lacksP_snoc]
  have hll : (lacksP R.ans (R.vols.take k)).length ≤ k := Nat.le_trans (List.length_filter_le _ _) (by rw [List.length_take]; omega)
  refine WC.fact (Ent.some (hV MM) (by omega)) ?_
  rintro ⟨b, off, rfl⟩
  have hel : ∀ {L}, A ∈ L → Ent L (cellAt b (off + k * 1) (vI R.vols[k])) := fun m => Ent.elem (hV m) rfl (int_at hlt)
  generalize hvk : R.vols[k] = v at *
  generalize lacksP R.ans (R.vols.take k) = out at *
  have hl1 : (out ++ [v]).length = out.length + 1 := by simp
  repeat (first | refine GD ?_ | refine NW fun _ => ?_)
  refine WL.step rfl (OP.load1 (v := .int .i64 v) rfl rfl rfl rfl (hel MM) rfl rfl ?_)
  repeat (first | refine GD ?_ | refine NW fun _ => ?_)
  refine WL.step rfl (OP.load1 (v := .map mo) rfl rfl rfl rfl (Ent.one (i := 4) (hB MM) rfl) rfl rfl ?_)
  cases mo with
  | none =>
    refine WL.fact (hO MM) (fun hf => ?_)
    have hr : R.ans v = false := hf.1 v
    repeat (first | refine GD ?_ | refine NW fun _ => ?_)
    refine WL.step rfl (OP.lookupNil (z := .bool false) rfl rfl rfl rfl rfl rfl rfl rfl rfl rfl rfl ?_)
    rw [hr, if_neg (by decide)] at hsn
    repeat (first | refine GD ?_ | refine NW fun _ => ?_)
    refine WL.step rfl (OP.append (ds := [vI v]) rfl rfl rfl rfl rfl rfl rfl rfl rfl P1 (Ent.own MM) rfl (by omega) (by omega) rfl rfl (fun a' cap' => ?_))
    repeat (first | refine GD ?_ | refine NW fun _ => ?_)
    refine ⟨(k + 1, a', cap'), by dsimp only; omega, by dsimp only; omega, ⟨rfl, by dsimp only; rw [hsn, hl1]; rfl, rfl, rfl, rfl, trivial⟩, by dsimp only; rw [hsn, hl1, List.map_append]; exact II⟩
  | some r =>
    repeat (first | refine GD ?_ | refine NW fun _ => ?_)
    refine WL.step rfl (OP.lookup (z := .bool false) (m := ansM R.ans) rfl rfl rfl rfl rfl rfl rfl rfl rfl (hO MM) rfl rfl ?_)
    rw [ansM_get]
    cases hr : R.ans v with
    | true =>
      rw [hr, if_pos rfl] at hsn
      repeat (first | refine GD ?_ | refine NW fun _ => ?_)
      exact ⟨(k + 1, a7, cap), by dsimp only; omega, by dsimp only; omega, ⟨rfl, by dsimp only; rw [hsn]; rfl, rfl, rfl, rfl, trivial⟩, by dsimp only; rw [hsn]; exact II⟩
    | false =>
      rw [hr, if_neg (by decide)] at hsn
      repeat (first | refine GD ?_ | refine NW fun _ => ?_)
      refine WL.step rfl (OP.append (ds := [vI v]) rfl rfl rfl rfl rfl rfl rfl rfl rfl P1 (Ent.own MM) rfl (by omega) (by omega) rfl rfl (fun a' cap' => ?_))
      repeat (first | refine GD ?_ | refine NW fun _ => ?_)
      refine ⟨(k + 1, a', cap'), by dsimp only; omega, by dsimp only; omega, ⟨rfl, by dsimp only; rw [hsn, hl1]; rfl, rfl, rfl, rfl, trivial⟩, by dsimp only; rw [hsn, hl1, List.map_append]; exact II⟩
set_option maxHeartbeats 4000000 in
set_option maxRecDepth 10000 in
theorem rtell_ok (p : Nat) (T : TypeId) (rest : List Value) (R : Rnd) (hs : R.vols.length < 1000000) :
    Triple G 163 [.pointer (some ⟨p, 0, none⟩)] [rnd p T rest R] (fun v M => ∃ E, CmdsA (tellL R) v E ∧ M = E ++ [rnd p T rest R.told]) := by
  refine Triple.enter Tryz.func163 rfl (by decide) rfl Tryz.ntmps163 rfl (fun F => ?_)
  have hlk := rlacks_rt p T rest R hs
  have hll : (lacksM R).length ≤ R.vols.length := List.length_filter_le _ _
  unfold tellL
  generalize hLK : lacksM R = lk at *
  repeat (first | refine GD ?_ | refine NW fun _ => ?_)
  refine WL.step rfl (OP.callRT rfl rfl hlk (Ent.at (up_rnd _ _ _ _) MM) rfl rfl ?_)
  rintro _ _ ⟨aL, cL, rfl, rfl⟩
  refine WL.open (M := [ownS aL lk.length cL 3 1 (lk.map vI), F]) (Ls := rndL p T rest R) II (fun x => ?_)
  unfold rndL rndC
  dsimp only [List.cons_append, List.nil_append]
  repeat (first | refine GD ?_ | refine NW fun _ => ?_)
  refine WC.imp (Imp.nilS 60 3) ?_
  refine WC.loop (σ := Nat × Option Addr × Nat) (fun s => s.1 ≤ lk.length)
    (fun s => [(0, .val (.pointer (some ⟨p, 0, none⟩))), (3, .val (.slice s.2.1 s.1 s.2.2)), (7, .val (.slice aL lk.length cL)), (8, .val (.int .i64 lk.length)), (9, .val (.int .i64 s.1))])
    (fun s => [ownS s.2.1 s.1 s.2.2 60 3 (((lk.take s.1).map (fun v => (R.phase, v, R.number))).flatMap encCmd), blk p (.int .i64 R.number :: .int .i64 R.latest :: .slice x.1 R.vols.length x.2.1 :: .int .i64 R.phase :: .map x.2.2 :: .int .i64 R.left :: .bool R.marked :: .int .i64 R.done :: .bool R.complete :: rest) T, ownS x.1 R.vols.length x.2.1 3 1 (R.vols.map vI), ansO R.ans R.number x.2.2, ownS aL lk.length cL 3 1 (lk.map vI), F]) (fun s => lk.length - s.1) (0, none, 0) (Nat.zero_le _) ⟨rfl, rfl, rfl, rfl, rfl, trivial⟩ II ?_
  rintro ⟨k, a7, cap⟩ hk
  dsimp only at hk ⊢
  by_cases hlt : k < lk.length
  rotate_left
  · have he : k = lk.length := by omega
    subst he
    rw [List.take_length]
    repeat (first | refine GD ?_ | refine NW fun _ => ?_)
    refine ret1 rfl ⟨[ownS a7 lk.length cap 60 3 ((lk.map (fun v => (R.phase, v, R.number))).flatMap encCmd)] ++ [rnd p T rest R.told], ⟨_, ⟨a7, cap, by rw [List.length_map], by rw [List.length_map]⟩, rfl⟩, ?_⟩
    exact Imp.trans II (Imp.trans (rndFold p T rest R.told x (N := [ownS a7 lk.length cap 60 3 ((lk.map (fun v => (R.phase, v, R.number))).flatMap encCmd), F])) II)
  have hsn : ((lk.take (k + 1)).map (fun v => (R.phase, v, R.number))).flatMap encCmd = ((lk.take k).map (fun v => (R.phase, v, R.number))).flatMap encCmd ++ encCmd (R.phase, lk[k], R.number) := by
    rw [← List.take_append_getElem hlt, List.map_append, List.flatMap_append, List.map_cons, List.map_nil, List.flatMap_cons, List.flatMap_nil, List.append_nil]
  refine WC.fact (Ent.some (Ent.own (a := aL) (n := lk.length) (cap := cL) (T := 3) (size := 1) (cs := lk.map vI) MM) (by omega)) ?_
  rintro ⟨b, off, rfl⟩
  have hel : (lk.map vI)[k * 1]? = some (vI lk[k]) := int_at hlt
  generalize hvk : lk[k] = v at *
  generalize ((lk.take k).map (fun v => (R.phase, v, R.number))).flatMap encCmd = out at *
  repeat (first | refine GD ?_ | refine NW fun _ => ?_)
  refine WL.step rfl (OP.load1 (v := .int .i64 v) rfl rfl rfl rfl (Ent.elem (i := k * 1) (Ent.own (T := 3) (n := lk.length) (cap := cL) MM) rfl hel) rfl rfl ?_)
  repeat (first | refine GD ?_ | refine NW fun _ => ?_)
  refine RD 12 14 (_) ?_
  refine WP 0 ?_
  refine WP 1 ?_
  refine WP 2 ?_
  refine WP 3 ?_
  refine VV 4 ?_
  refine WP 5 ?_
  refine WP 6 ?_
  refine WP 7 ?_
  refine WP 8 ?_
  refine VV 9 ?_
  refine WH.only 10 rfl rfl (by kernel_rfl) rfl (OP.buildT rfl rfl rfl rfl ⟨fun _ => II, ?_⟩)
  refine WH.only 11 rfl rfl (by kernel_rfl) rfl (OP.sliceLit (c := encCmd (R.phase, v, R.number)) rfl rfl rfl rfl rfl rfl rfl rfl (fun b2 => ⟨fun _ => II, ?_⟩))
  refine WH.only 12 rfl rfl (by kernel_rfl) rfl (OP.append rfl rfl rfl rfl rfl rfl rfl rfl rfl P1 (Ent.own MM) rfl (by omega) (by omega) rfl rfl (fun a' cap' => ⟨(fun h => nomatch h), ?_⟩))
  refine WP 13 ?_
  refine DN ?_
  repeat (first | refine GD ?_ | refine NW fun _ => ?_)
  exact ⟨(k + 1, a', cap'), by dsimp only; omega, by dsimp only; omega, ⟨rfl, rfl, rfl, rfl, rfl, trivial⟩, by dsimp only; rw [hsn]; exact II⟩
set_option maxHeartbeats 2000000 in
set_option maxRecDepth 10000 in
theorem renter_ok (p : Nat) (T : TypeId) (rest : List Value) (R : Rnd) (ph : Int) (x : RHd) (hs : R.vols.length < 1000000) :
    Triple G 158 [.pointer (some ⟨p, 0, none⟩), .int .i64 ph] [blk p (rndC R x ++ rest) T, ownS x.1 R.vols.length x.2.1 3 1 (R.vols.map vI)] (fun v M => ∃ E, CmdsA (R.enter ph).1 v E ∧ M = E ++ [rnd p T rest (R.enter ph).2]) := by
  refine Triple.enter Tryz.func158 rfl (by decide) rfl Tryz.ntmps158 rfl (fun F => ?_)
  have htl := rtell_ok p T rest (R.fresh ph) hs
  unfold rndC
  dsimp only [List.cons_append, List.nil_append]
  repeat (first | refine GD ?_ | refine NW fun _ => ?_)
  refine WL.step rfl (OP.makeMap rfl rfl rfl rfl (fun b => ?_))
  repeat (first | refine GD ?_ | refine NW fun _ => ?_)
  refine WL.imp (M := [rnd p T rest (R.fresh ph), F]) (Imp.trans (show Imp _ (blk p (rndC (R.fresh ph) (x.1, x.2.1, some b) ++ rest) T :: ownS x.1 R.vols.length x.2.1 3 1 (R.vols.map vI) :: ansO (fun _ => false) R.number (some b) :: [F]) from II) (rndFold p T rest (R.fresh ph) (x.1, x.2.1, some b))) ?_
  refine WL.step rfl (OP.call (pre := [rnd p T rest (R.fresh ph)]) rfl rfl htl PS rfl rfl ?_)
  rintro v _ ⟨E, hE, rfl⟩
  repeat (first | refine GD ?_ | refine NW fun _ => ?_)
  exact ret1 rfl ⟨_, ⟨E, hE, rfl⟩, Imp.refl _⟩
end Go.Proofs.YtleajkobmhhacaaGreatDoor
/- Contracts of functions of the given program, and plain laws on what they compute: parts of the proofs of laws. -/

namespace Go.Proofs.YtleajkobmhhacaaGreatDoor
open Go Go.GL

def inF (l : List Int) : Int → Bool := fun x => decide (x ∈ l)
theorem inF_nil : ansM (inF []) = fun _ => none := by
  funext x
  unfold ansM inF
  simp
theorem inF_snoc (l : List Int) (v : Int) : setA (inF l) v = inF (l ++ [v]) := by
  funext x
  unfold setA inF
  by_cases h : x = v
  · simp [h]
  · simp [h]
set_option maxHeartbeats 2000000 in
set_option maxRecDepth 10000 in
theorem rright_ro (a : Option Addr) (n c : Nat) (l : List Int) (hn : n = l.length) (hs : n < 1000000) : RO G 156 [.slice a n c] (readS a n 1 (l.map vI)) (.bool (decide (RightV l))) := by
  refine RO.enter Tryz.func156 rfl (by decide) rfl Tryz.ntmps156 rfl (fun A hu hA => ?_) (up_readS _ _ _ _)
  have hV : ∀ {L}, A ∈ L → Ent L (readS a n 1 (l.map vI)) := fun m => Ent.mem m hu hA
  repeat (first | refine GD ?_ | refine NW fun _ => ?_)
  refine WL.step rfl (OP.makeMap rfl rfl rfl rfl (fun b => ?_))
  rw [← inF_nil]
  repeat (first | refine GD ?_ | refine NW fun _ => ?_)
  refine WC.loop (σ := Nat) (fun k => k ≤ n ∧ (l.take k).Nodup ∧ ∀ v ∈ l.take k, 0 ≤ v ∧ v < 4)
    (fun k => [(0, .val (.slice a n c)), (3, .val (.map (some b))), (7, .val (.slice a n c)), (8, .val (.int .i64 n)), (9, .val (.int .i64 k))])
    (fun k => [mapA b (ansM (inF (l.take k))), A]) (fun k => n - k) 0 ⟨Nat.zero_le _, by rw [List.take_zero]; exact List.nodup_nil, fun v h => by rw [List.take_zero] at h; cases h⟩ ⟨rfl, rfl, rfl, rfl, rfl, trivial⟩ II ?_
  rintro k ⟨hk, hnd, hrg⟩
  by_cases hlt : k < n
  rotate_left
  · have he : k = l.length := by omega
    subst he
    rw [List.take_length] at hnd hrg
    have hdec : decide (RightV l) = decide (0 < (n : Int)) := by
      rw [decide_eq_decide]
      constructor
      · intro h
        have := List.length_pos_iff.2 h.1
        omega
      · intro h
        refine ⟨fun e => ?_, hnd, hrg⟩
        rw [e] at hn
        simp at hn
        omega
    rw [hdec]
    by_cases h0 : 0 < n
    · rw [decide_eq_true (show 0 < (n : Int) by omega)]
      repeat (first | refine GD ?_ | refine NW fun _ => ?_)
      exact ret1 rfl ⟨rfl, MM⟩
    rw [decide_eq_false (show ¬ 0 < (n : Int) by omega)]
    repeat (first | refine GD ?_ | refine NW fun _ => ?_)
    exact ret1 rfl ⟨rfl, MM⟩
  have hlk : k < l.length := by omega
  refine WC.fact (Ent.some (hV MM) (by omega)) ?_
  rintro ⟨b2, off, rfl⟩
  have hel : (l.map vI)[k * 1]? = some (vI l[k]) := int_at hlk
  have htk := List.take_append_getElem hlk
  have hmem : l[k] ∈ l := List.getElem_mem hlk
  have hdup : l[k] ∈ l.take k → ¬ l.Nodup := fun h hn => by
    obtain ⟨i, hi, e⟩ := List.getElem_of_mem h
    rw [List.getElem_take] at e
    rw [List.length_take] at hi
    have := (List.getElem_inj hn).1 e
    omega
  generalize l[k] = v at *
  repeat (first | refine GD ?_ | refine NW fun _ => ?_)
  refine WL.step rfl (OP.load1 (v := .int .i64 v) rfl rfl rfl rfl (Ent.elem (i := k * 1) (hV MM) rfl hel) rfl rfl ?_)
  by_cases h0 : v < 0
  · have hf : ¬ RightV l := fun h => by have := h.2.2 v hmem; omega
    rw [decide_eq_false hf]
    repeat (first | refine GD ?_ | refine NW fun _ => ?_)
    exact ret1 rfl ⟨rfl, MM⟩
  by_cases h4 : 4 ≤ v
  · have hf : ¬ RightV l := fun h => by have := h.2.2 v hmem; omega
    rw [decide_eq_false hf]
    repeat (first | refine GD ?_ | refine NW fun _ => ?_)
    exact ret1 rfl ⟨rfl, MM⟩
  repeat (first | refine GD ?_ | refine NW fun _ => ?_)
  refine WL.guardT rfl rfl rfl rfl (OP.lookup (z := .bool false) (m := ansM (inF (l.take k))) rfl rfl rfl rfl rfl rfl rfl rfl rfl (Ent.at (up_mapA _ _) MM) rfl rfl ?_)
  rw [ansM_get]
  by_cases hin : v ∈ l.take k
  · have hf : ¬ RightV l := fun h => hdup hin h.2.1
    rw [decide_eq_false hf, show inF (l.take k) v = true from decide_eq_true hin]
    repeat (first | refine GD ?_ | refine NW fun _ => ?_)
    exact ret1 rfl ⟨rfl, MM⟩
  · rw [show inF (l.take k) v = false from decide_eq_false hin]
    repeat (first | refine GD ?_ | refine NW fun _ => ?_)
    refine WL.step rfl (OP.mapUpdate rfl rfl rfl rfl rfl rfl rfl rfl (show Imp _ (mapA b (ansM (inF (l.take k))) :: _) from P1) rfl ?_)
    rw [ansM_set, inF_snoc, htk]
    repeat (first | refine GD ?_ | refine NW fun _ => ?_)
    refine ⟨k + 1, ⟨by omega, ?_, ?_⟩, by omega, ⟨rfl, rfl, rfl, rfl, rfl, trivial⟩, II⟩
    · rw [← htk]
      exact List.nodup_append.2 ⟨hnd, by simp, fun x hx y hy e => by
        rw [List.mem_singleton.1 hy] at e
        exact hin (e ▸ hx)⟩
    · intro x hx
      rw [← htk] at hx
      rcases List.mem_append.1 hx with hx | hx
      · exact hrg x hx
      · rw [List.mem_singleton.1 hx]; omega
set_option maxRecDepth 10000 in
theorem iclone_rt (a : Option Addr) (n c : Nat) (l : List Int) (hn : n = l.length) (hs : n < 1000000) : RT G 157 [.slice a n c] (readS a n 1 (l.map vI)) (Ints l) := by
  refine RT.enter Tryz.func157 rfl (by decide) rfl Tryz.ntmps157 rfl (fun A hu hA => ?_)
  have hE : ∀ {L}, A ∈ L → Ent L (readS a n 1 (l.map vI)) := fun m => Ent.mem m hu hA
  have h1 : ∀ l : List Int, allOne (l.map vI) = true := fun l => by
    induction l with
    | nil => rfl
    | cons x r ih => simpa [vI, allOne, one] using ih
  cases a with
  | none =>
    refine WC.fact (p := n = 0) (fun h s => by
      obtain ⟨_, hh⟩ := hE MM h s
      rcases hh with ⟨_, h0⟩ | ⟨b, off, hb, _⟩
      · exact h0
      · cases hb) (fun h0 => ?_)
    subst h0
    have : l = [] := List.length_eq_zero_iff.1 hn.symm
    subst this
    repeat (first | refine GD ?_ | refine NW fun _ => ?_)
    refine ret1 rfl ⟨[ownS none 0 0 3 1 []], ⟨none, 0, rfl, rfl⟩, Imp.nilS _ _⟩
  | some a =>
    repeat (first | refine GO ?_ | refine NW fun _ => ?_)
    refine WL.step rfl (OP.lit0 (size := 1) rfl rfl rfl rfl rfl rfl (fun b => ?_))
    repeat (first | refine GO ?_ | refine NW fun _ => ?_)
    refine WL.step rfl (OP.append rfl rfl rfl rfl rfl rfl rfl rfl rfl P1 (hE MM) (h1 _) (by omega) (by omega) rfl rfl (fun a2' cap2 => ?_))
    rw [Nat.zero_add, List.nil_append]
    repeat (first | refine GO ?_ | refine NW fun _ => ?_)
    exact ret1 rfl ⟨[ownS a2' n cap2 3 1 (l.map vI)], ⟨a2', cap2, by rw [hn], by rw [hn]⟩, II⟩
set_option maxRecDepth 10000 in
theorem iindex_ro (a : Option Addr) (n c : Nat) (l : List Int) (v : Int) (hn : n = l.length) (hs : n < 1000000) : RO G 211 [.slice a n c, .int .i64 v] (readS a n 1 (l.map vI)) (.int .i64 (if v ∈ l then (l.idxOf v : Int) else -1)) := by
  refine RO.enter Tryz.func211 rfl (by decide) rfl Tryz.ntmps211 rfl (fun A hu hA => ?_) (up_readS _ _ _ _)
  have hV : ∀ {L}, A ∈ L → Ent L (readS a n 1 (l.map vI)) := fun m => Ent.mem m hu hA
  repeat (first | refine GD ?_ | refine NW fun _ => ?_)
  refine WC.loop (σ := Nat) (fun k => k ≤ n ∧ v ∉ l.take k)
    (fun k => [(0, .val (.slice a n c)), (1, .val (.int .i64 v)), (7, .val (.int .i64 n)), (8, .val (.int .i64 k))])
    (fun k => [A]) (fun k => n - k) 0 ⟨Nat.zero_le _, by rw [List.take_zero]; simp⟩ ⟨rfl, rfl, rfl, rfl, trivial⟩ II ?_
  rintro k ⟨hk, hno⟩
  by_cases hlt : k < n
  rotate_left
  · have he : k = l.length := by omega
    subst he
    rw [List.take_length] at hno
    rw [if_neg hno]
    repeat (first | refine GD ?_ | refine NW fun _ => ?_)
    exact ret1 rfl ⟨rfl, MM⟩
  have hlk : k < l.length := by omega
  refine WC.fact (Ent.some (hV MM) (by omega)) ?_
  rintro ⟨b2, off, rfl⟩
  have hel : (l.map vI)[k * 1]? = some (vI l[k]) := int_at hlk
  have htk := List.take_append_getElem hlk
  repeat (first | refine GD ?_ | refine NW fun _ => ?_)
  refine WL.step rfl (OP.load1 (v := .int .i64 l[k]) rfl rfl rfl rfl (Ent.elem (i := k * 1) (hV MM) rfl hel) rfl rfl ?_)
  by_cases he : v = l[k]
  · have hm : v ∈ l := by rw [he]; exact List.getElem_mem hlk
    have hidx : l.idxOf v = k := by
      have h1 : ¬ l.idxOf v < k := fun h => by
        refine hno ?_
        have h2 : l.idxOf v < l.length := List.idxOf_lt_length_iff.2 hm
        have h3 := List.getElem_idxOf h2
        rw [List.mem_take_iff_getElem]
        exact ⟨l.idxOf v, by omega, h3⟩
      have h2 : ¬ k < l.idxOf v := fun h => by
        have h4 := List.not_of_lt_findIdx (p := fun x => x == v) (xs := l) (i := k) h
        simp [he] at h4
      omega
    rw [if_pos hm, hidx]
    repeat (first | refine GD ?_ | refine NW fun _ => ?_)
    exact ret1 rfl ⟨rfl, MM⟩
  · repeat (first | refine GD ?_ | refine NW fun _ => ?_)
    refine ⟨k + 1, ⟨by omega, ?_⟩, by omega, ⟨rfl, rfl, rfl, rfl, trivial⟩, Imp.refl _⟩
    rw [← htk]
    intro h
    rcases List.mem_append.1 h with h | h
    · exact hno h
    · exact he (List.mem_singleton.1 h)
set_option maxRecDepth 10000 in
theorem icontains_ro (a : Option Addr) (n c : Nat) (l : List Int) (v : Int) (hn : n = l.length) (hs : n < 1000000) : RO G 160 [.slice a n c, .int .i64 v] (readS a n 1 (l.map vI)) (.bool (decide (v ∈ l))) := by
  refine RO.enter Tryz.func160 rfl (by decide) rfl Tryz.ntmps160 rfl (fun A hu hA => ?_) (up_readS _ _ _ _)
  have hV : ∀ {L}, A ∈ L → Ent L (readS a n 1 (l.map vI)) := fun m => Ent.mem m hu hA
  repeat (first | refine GD ?_ | refine NW fun _ => ?_)
  refine WL.step rfl (OP.callRO rfl rfl (iindex_ro a n c l v hn hs) (hV MM) rfl rfl ?_)
  by_cases h : v ∈ l
  · rw [if_pos h, decide_eq_true h]
    repeat (first | refine GD ?_ | refine NW fun _ => ?_)
    exact ret1 rfl ⟨rfl, MM⟩
  · rw [if_neg h, decide_eq_false h]
    repeat (first | refine GD ?_ | refine NW fun _ => ?_)
    exact ret1 rfl ⟨rfl, MM⟩
end Go.Proofs.YtleajkobmhhacaaGreatDoor
/- Contracts of functions of the given program, and plain laws on what they compute: parts of the proofs of laws. -/

namespace Go.Proofs.YtleajkobmhhacaaGreatDoor
open Go Go.GL

/-! the document's round -/
abbrev rqT : TypeId := 73
abbrev cqT : TypeId := 42
abbrev QRh := Option Addr × Nat × Option Addr × Nat
def qrndC (R : Rnd) (x : QRh) : List Value := [.int .i64 R.number, .int .i64 R.latest, .slice x.1 R.vols.length x.2.1, .int .i64 R.phase, .slice x.2.2.1 R.vols.length x.2.2.2, .int .i64 R.left, .bool R.marked, .int .i64 R.done, .bool R.complete]
def okC (R : Rnd) : List Value := R.vols.map (fun v => .bool (R.ans v))
def qrndL (p : Nat) (R : Rnd) (x : QRh) : List Assn := [blk p (qrndC R x) rqT, ownS x.1 R.vols.length x.2.1 3 1 (R.vols.map vI), ownS x.2.2.1 R.vols.length x.2.2.2 4 1 (okC R)]
def qrnd (p : Nat) (R : Rnd) : Assn := exA (qrndL p R)
theorem up_qrnd (p : Nat) (R : Rnd) : Up (qrnd p R) := up_exA _
theorem qrndFold (p : Nat) (R : Rnd) (x : QRh) {N : List Assn} : Imp (blk p (qrndC R x) rqT :: ownS x.1 R.vols.length x.2.1 3 1 (R.vols.map vI) :: ownS x.2.2.1 R.vols.length x.2.2.2 4 1 (okC R) :: N) (qrnd p R :: N) := Imp.fold (Ls := qrndL p R) x
def CmdsQ (l : List Cmd) (v : Value) (E : List Assn) : Prop := ∃ a cap, v = .slice a l.length cap ∧ E = [ownS a l.length cap cqT 3 (l.flatMap encCmd)]
theorem okC_at {R : Rnd} {k : Nat} (h : k < R.vols.length) : (okC R)[k * 1]? = some (.bool (R.ans R.vols[k])) := by simp [okC, h]
def tellP (R : Rnd) (l : List Int) : List Cmd := (lacksP R.ans l).map (fun v => (R.phase, v, R.number))
theorem tellP_snoc (R : Rnd) (l : List Int) (v : Int) : tellP R (l ++ [v]) = if R.ans v = true then tellP R l else tellP R l ++ [(R.phase, v, R.number)] := by
  unfold tellP
  rw [lacksP_snoc]
  split
  · rfl
  · rw [List.map_append]; rfl
set_option maxHeartbeats 4000000 in
set_option maxRecDepth 10000 in
theorem qtell_rt (p : Nat) (R : Rnd) (hs : R.vols.length < 1000000) : RT G 94 [.pointer (some ⟨p, 0, none⟩)] (qrnd p R) (CmdsQ (tellL R)) := by
  refine RT.enterEx Tryz.func94 rfl (by decide) rfl Tryz.ntmps94 rfl (fun x A hu hA => ?_)
  have hB : ∀ {L}, A ∈ L → Ent L (cellsAt p 0 (qrndC R x)) := fun m => Ent.of hu hA m (Ent.whole (List.Mem.head _))
  have hV : ∀ {L}, A ∈ L → Ent L (readS x.1 R.vols.length 1 (R.vols.map vI)) := fun m => Ent.of hu hA m (Ent.own (List.Mem.tail _ (List.Mem.head _)))
  have hO : ∀ {L}, A ∈ L → Ent L (readS x.2.2.1 R.vols.length 1 (okC R)) := fun m => Ent.of hu hA m (Ent.own (List.Mem.tail _ (List.Mem.tail _ (List.Mem.head _))))
  obtain ⟨va, vc, oa, oc⟩ := x
  dsimp only at hB hV hO ⊢
  have hdef : tellL R = tellP R R.vols := rfl
  rw [hdef]
  repeat (first | refine GD ?_ | refine NW fun _ => ?_)
  refine WL.step rfl (OP.load1 (v := .slice va R.vols.length vc) rfl rfl rfl rfl (Ent.one (i := 2) (hB MM) rfl) rfl rfl ?_)
  repeat (first | refine GD ?_ | refine NW fun _ => ?_)
  refine WC.imp (Imp.nilS cqT 3) ?_
  refine WC.loop (σ := Nat × Option Addr × Nat) (fun s => s.1 ≤ R.vols.length)
    (fun s => [(0, .val (.pointer (some ⟨p, 0, none⟩))), (3, .val (.slice s.2.1 (tellP R (R.vols.take s.1)).length s.2.2)), (9, .val (.int .i64 R.vols.length)), (10, .val (.int .i64 s.1))])
    (fun s => [ownS s.2.1 (tellP R (R.vols.take s.1)).length s.2.2 cqT 3 ((tellP R (R.vols.take s.1)).flatMap encCmd), A]) (fun s => R.vols.length - s.1) (0, none, 0) (Nat.zero_le _) ⟨rfl, rfl, rfl, rfl, trivial⟩ (Imp.refl _) ?_
  rintro ⟨k, a7, cap⟩ hk
  dsimp only at hk ⊢
  by_cases hlt : k < R.vols.length
  rotate_left
  · have he : k = R.vols.length := by omega
    subst he
    rw [List.take_length]
    repeat (first | refine GD ?_ | refine NW fun _ => ?_)
    exact ret1 rfl ⟨_, ⟨a7, cap, rfl, rfl⟩, Imp.refl _⟩
  have hsn : tellP R (R.vols.take (k + 1)) = if R.ans R.vols[k] = true then tellP R (R.vols.take k) else tellP R (R.vols.take k) ++ [(R.phase, R.vols[k], R.number)] := by
    rw [← List.take_append_getElem hlt, tellP_snoc]
  have hll : (tellP R (R.vols.take k)).length ≤ k := by
    unfold tellP
    rw [List.length_map]
    exact Nat.le_trans (List.length_filter_le _ _) (by rw [List.length_take]; omega)
  refine WC.fact (Ent.some (hV MM) (by omega)) ?_
  rintro ⟨b, off, rfl⟩
  refine WC.fact (Ent.some (hO MM) (by omega)) ?_
  rintro ⟨b2, off2, rfl⟩
  have hel : ∀ {L}, A ∈ L → Ent L (cellAt b (off + k * 1) (vI R.vols[k])) := fun m => Ent.elem (hV m) rfl (int_at hlt)
  have hol : ∀ {L}, A ∈ L → Ent L (cellAt b2 (off2 + k * 1) (.bool (R.ans R.vols[k]))) := fun m => Ent.elem (hO m) rfl (okC_at hlt)
  generalize R.vols[k] = v at *
  generalize tellP R (R.vols.take k) = out at *
  have hl1 : (out ++ [(R.phase, v, R.number)]).length = out.length + 1 := by simp
  repeat (first | refine GD ?_ | refine NW fun _ => ?_)
  refine WL.step rfl (OP.load1 (v := .slice (some ⟨b2, off2, none⟩) R.vols.length oc) rfl rfl rfl rfl (Ent.one (i := 4) (hB MM) rfl) rfl rfl ?_)
  repeat (first | refine GD ?_ | refine NW fun _ => ?_)
  refine WL.step rfl (OP.load1 (v := .bool (R.ans v)) rfl rfl rfl rfl (hol MM) rfl rfl ?_)
  cases hr : R.ans v with
  | true =>
    rw [hr, if_pos rfl] at hsn
    repeat (first | refine GD ?_ | refine NW fun _ => ?_)
    exact ⟨(k + 1, a7, cap), by dsimp only; omega, by dsimp only; omega, ⟨rfl, by dsimp only; rw [hsn]; rfl, rfl, rfl, trivial⟩, by dsimp only; rw [hsn]; exact II⟩
  | false =>
    rw [hr, if_neg (by decide)] at hsn
    repeat (first | refine GD ?_ | refine NW fun _ => ?_)
    refine RD 18 20 (_) ?_
    refine WP 0 ?_
    refine WP 1 ?_
    refine WP 2 ?_
    refine WP 3 ?_
    refine VL 4 (.int .i64 R.phase) rfl rfl rfl rfl (.inl ⟨rfl, Ent.one (i := 3) (hB MM) rfl⟩) ?_
    refine WP 5 ?_
    refine WP 6 ?_
    refine WP 7 ?_
    refine VL 8 (.slice (some ⟨b, off, none⟩) R.vols.length vc) rfl rfl rfl rfl (.inl ⟨rfl, Ent.one (i := 2) (hB MM) rfl⟩) ?_
    refine WP 9 ?_
    refine WP 10 ?_
    refine VL 11 (.int .i64 v) rfl rfl rfl rfl (.inl ⟨rfl, hel MM⟩) ?_
    refine WP 12 ?_
    refine WP 13 ?_
    refine WP 14 ?_
    refine VL 15 (.int .i64 R.number) rfl rfl rfl rfl (.inl ⟨rfl, Ent.one (i := 0) (hB MM) rfl⟩) ?_
    refine WH.only 16 rfl rfl (by kernel_rfl) rfl (OP.buildT rfl rfl rfl rfl ⟨fun _ => II, ?_⟩)
    refine WH.only 17 rfl rfl (by kernel_rfl) rfl (OP.sliceLit (c := encCmd (R.phase, v, R.number)) rfl rfl rfl rfl rfl rfl rfl rfl (fun b2 => ⟨fun _ => II, ?_⟩))
    refine WH.only 18 rfl rfl (by kernel_rfl) rfl (OP.append rfl rfl rfl rfl rfl rfl rfl rfl rfl P1 (Ent.own MM) rfl (by omega) (by omega) rfl rfl (fun a' cap' => ⟨(fun h => nomatch h), ?_⟩))
    refine WP 19 ?_
    refine DN ?_
    repeat (first | refine GD ?_ | refine NW fun _ => ?_)
    exact ⟨(k + 1, a', cap'), by dsimp only; omega, by dsimp only; omega, ⟨rfl, by dsimp only; rw [hsn, hl1]; rfl, rfl, rfl, trivial⟩, by dsimp only; rw [hsn, hl1, List.flatMap_append]; exact II⟩
theorem rep_false (l : List Int) : repL [.bool false] l.length = l.map (fun _ => Value.bool false) := by
  induction l with
  | nil => rfl
  | cons x r ih =>
    show [Value.bool false] ++ repL [.bool false] r.length = _
    rw [ih]; rfl
set_option maxHeartbeats 4000000 in
set_option maxRecDepth 10000 in
theorem qenter_ok (p : Nat) (R : Rnd) (ph : Int) (va : Option Addr) (vc : Nat) (w : Value) (hs : R.vols.length < 1000000) :
    Triple G 93 [.pointer (some ⟨p, 0, none⟩), .int .i64 ph] [blk p [.int .i64 R.number, .int .i64 R.latest, .slice va R.vols.length vc, .int .i64 R.phase, w, .int .i64 R.left, .bool R.marked, .int .i64 R.done, .bool R.complete] rqT, ownS va R.vols.length vc 3 1 (R.vols.map vI)] (fun v M => ∃ E, CmdsQ (R.enter ph).1 v E ∧ M = E ++ [qrnd p (R.enter ph).2]) := by
  refine Triple.enter Tryz.func93 rfl (by decide) rfl Tryz.ntmps93 rfl (fun F => ?_)
  have htl := qtell_rt p ((R.fresh ph).told) hs
  rw [show tellL (R.fresh ph).told = (R.enter ph).1 from rfl] at htl
  repeat refine GS ?_
  refine WL.step rfl (OP.store rfl rfl rfl rfl rfl rfl rfl UP rfl ?_)
  repeat refine GS ?_
  refine WL.step rfl (OP.store rfl rfl rfl rfl rfl rfl rfl UP rfl ?_)
  repeat refine GS ?_
  refine WL.step rfl (OP.makeS (n := R.vols.length) rfl rfl rfl rfl rfl rfl rfl rfl (by omega) (by omega) (by omega) rfl rfl (fun b => ?_))
  rw [Int.toNat_natCast, rep_false]
  repeat refine GS ?_
  refine WL.step rfl (OP.store rfl rfl rfl rfl rfl rfl rfl UP rfl ?_)
  repeat (first | refine GD ?_ | refine NW fun _ => ?_)
  refine WL.imp (M := [qrnd p (R.enter ph).2, F]) (Imp.trans (show Imp _ (blk p (qrndC (R.enter ph).2 (va, vc, some ⟨b, 0, none⟩, R.vols.length)) rqT :: ownS va R.vols.length vc 3 1 (R.vols.map vI) :: ownS (some ⟨b, 0, none⟩) R.vols.length R.vols.length 4 1 (R.vols.map (fun _ => Value.bool false)) :: [F]) from II) (qrndFold p (R.enter ph).2 (va, vc, some ⟨b, 0, none⟩, R.vols.length))) ?_
  refine WL.step rfl (OP.callRT rfl rfl htl (Ent.at (up_qrnd _ _) MM) rfl rfl ?_)
  intro v E hE
  repeat (first | refine GD ?_ | refine NW fun _ => ?_)
  refine ret1 rfl ⟨E ++ [qrnd p (R.enter ph).2], ⟨E, hE, rfl⟩, ?_⟩
  rw [List.append_assoc]
  exact Imp.refl _
end Go.Proofs.YtleajkobmhhacaaGreatDoor
/- Contracts of functions of the given program, and plain laws on what they compute: parts of the proofs of laws. -/

namespace Go.Proofs.YtleajkobmhhacaaGreatDoor
open Go Go.GL

/-- so many changes count at a marker -/
def cnt (m : Int) (ch : List Ch) : Nat := (ch.takeWhile (fun c => decide (c.1 ≤ m))).length
theorem cnt_le (m : Int) (ch : List Ch) : cnt m ch ≤ ch.length := by unfold cnt; exact (List.takeWhile_sublist _).length_le
theorem cnt_lt {m : Int} {ch : List Ch} {k : Nat} (h : k < ch.length) (hk : ∀ j (hj : j < k), (ch[j]'(by omega)).1 ≤ m) : (ch[k].1 ≤ m → k < cnt m ch) ∧ (¬ ch[k].1 ≤ m → cnt m ch = k) := by
  induction ch generalizing k with
  | nil => simp at h
  | cons c r ih =>
    cases k with
    | zero =>
      unfold cnt
      rw [List.takeWhile_cons]
      constructor
      · intro hc; simp only [List.getElem_cons_zero] at hc; simp [hc]
      · intro hc; simp only [List.getElem_cons_zero] at hc; simp [hc]
    | succ k =>
      have h0 := hk 0 (by omega)
      simp only [List.getElem_cons_zero] at h0
      have := ih (k := k) (by simpa using h) (fun j hj => by have := hk (j + 1) (by omega); simpa using this)
      unfold cnt at *
      rw [List.takeWhile_cons]
      simp only [h0, decide_true, if_true, List.length_cons, List.getElem_cons_succ]
      exact ⟨fun x => by have := this.1 x; omega, fun x => by have := this.2 x; omega⟩
theorem cnt_all {m : Int} {ch : List Ch} (hk : ∀ j (hj : j < ch.length), ch[j].1 ≤ m) : cnt m ch = ch.length := by
  unfold cnt
  congr 1
  have : ∀ c ∈ ch, c.1 ≤ m := fun c hc => by
    obtain ⟨i, hi, rfl⟩ := List.getElem_of_mem hc
    exact hk i hi
  clear hk
  induction ch with
  | nil => rfl
  | cons c r ih =>
    rw [List.takeWhile_cons, if_pos (by simpa using this c (List.mem_cons_self)), ih (fun x hx => this x (List.mem_cons_of_mem _ hx))]

set_option maxRecDepth 10000 in
theorem at_ok (p : Nat) (a : Option Addr) (cap : Nat) (f : List Bool) (ch : List Ch) (m : Int) (hf : f.length = 4) (hv : Vols ch) (hc : ch.length ≤ cap) (hs : ch.length < 1000000) :
    RT G 33 [.pointer (some ⟨p, 0, none⟩), .int .i64 m] (grpR p a cap f ch) (Ints (listM (after f (ch.take (cnt m ch))))) := by
  refine RT.enter Tryz.func33 rfl (by decide) rfl Tryz.ntmps33 rfl (fun A hu hA => ?_)
  have hE1 : ∀ {L}, A ∈ L → Ent L (cellsAt p 0 (bools f ++ [.slice a ch.length cap])) := fun m => Ent.mem m hu fun k x => (hA k x).1
  have hE2 : ∀ {L}, A ∈ L → Ent L (readS a ch.length 3 (encL ch)) := fun m => Ent.mem m hu fun k x => (hA k x).2
  have hg : (bools f ++ [Value.slice a ch.length cap])[4]? = some (.slice a ch.length cap) := by
    obtain ⟨f0, f1, f2, f3, rfl⟩ := four hf; rfl
  repeat (first | refine GO ?_ | refine NW fun _ => ?_)
  refine WC.loop (σ := Nat) (fun k => k ≤ ch.length ∧ ∀ j (hj : j < k) (hj2 : j < ch.length), ch[j].1 ≤ m)
    (fun k => [(0, .val (.pointer (some ⟨p, 0, none⟩))), (1, .val (.int .i64 m)), (5, .val (.int .i64 k))])
    (fun k => [A]) (fun k => ch.length - k) 0 ⟨Nat.zero_le _, fun j hj => by omega⟩ ⟨rfl, rfl, rfl, trivial⟩ (Imp.refl _) ?_
  rintro k ⟨hk, hall⟩
  repeat (first | refine GO ?_ | refine NW fun _ => ?_)
  refine WL.step rfl (OP.load1 (v := .slice a ch.length cap) rfl rfl rfl rfl (Ent.one (i := 4) (hE1 MM) hg) rfl rfl ?_)
  by_cases hlt : k < ch.length
  · repeat (first | refine GD ?_ | refine NW fun _ => ?_)
    refine WL.guardT rfl rfl rfl rfl (OP.load1 (v := .slice a ch.length cap) rfl rfl rfl rfl (Ent.one (i := 4) (hE1 MM) hg) rfl rfl ?_)
    repeat (first | refine GD ?_ | refine NW fun _ => ?_)
    refine WL.fact (Ent.some (hE2 MM) (by omega)) ?_
    rintro ⟨b, off, rfl⟩
    repeat (first | refine GD ?_ | refine NW fun _ => ?_)
    have hx := cnt_lt hlt (fun j hj => hall j hj (by omega))
    refine WL.guardT rfl rfl rfl rfl (OP.load1 (v := .int .i64 ch[k].1) rfl rfl rfl rfl (Ent.elem (i := k * 3 + 0) (hE2 MM) rfl (encL_get _ _ _ hlt (by decide))) rfl rfl ?_)
    by_cases hm : ch[k].1 ≤ m
    · repeat (first | refine GD ?_ | refine NW fun _ => ?_)
      exact ⟨k + 1, ⟨by omega, fun j hj hj2 => by
        by_cases e : j = k
        · subst e; exact hm
        · exact hall j (by omega) hj2⟩, by omega, ⟨rfl, rfl, rfl, trivial⟩, Imp.refl _⟩
    · have hck := hx.2 hm
      repeat (first | refine GD ?_ | refine NW fun _ => ?_)
      refine WL.step rfl (OP.callRO rfl rfl (behind_ro p _ cap f ch k hf hv (by omega) hc hs) (Ent.mem MM hu hA) rfl rfl ?_)
      refine WL.step rfl (OP.callRT rfl rfl (list_ok _ (by rw [after_length, hf])) (fun _ _ => trivial) rfl rfl ?_)
      rintro v E hE
      repeat (first | refine GD ?_ | refine NW fun _ => ?_)
      exact ret1 rfl ⟨E, hck ▸ hE, Imp.refl _⟩
  · have hkn : k = ch.length := by omega
    subst hkn
    have hck : cnt m ch = ch.length := cnt_all (fun j hj => hall j hj hj)
    repeat (first | refine GD ?_ | refine NW fun _ => ?_)
    refine WL.step rfl (OP.callRO rfl rfl (behind_ro p _ cap f ch ch.length hf hv (by omega) hc hs) (Ent.mem MM hu hA) rfl rfl ?_)
    refine WL.step rfl (OP.callRT rfl rfl (list_ok _ (by rw [after_length, hf])) (fun _ _ => trivial) rfl rfl ?_)
    rintro v E hE
    repeat (first | refine GD ?_ | refine NW fun _ => ?_)
    exact ret1 rfl ⟨E, hck ▸ hE, Imp.refl _⟩
end Go.Proofs.YtleajkobmhhacaaGreatDoor
/- Contracts of functions of the given program, and plain laws on what they compute: parts of the proofs of laws. -/

namespace Go.Proofs.YtleajkobmhhacaaGreatDoor
open Go Go.GL

/-- the marker of the last change -/
def lastM (ch : List Ch) : Int := match ch.getLast? with
  | some c => c.1
  | none => 0
set_option maxRecDepth 10000 in
theorem last_ro (p : Nat) (a : Option Addr) (cap : Nat) (f : List Bool) (ch : List Ch) (hf : f.length = 4) (hs : ch.length < 1000000) :
    RO G 35 [.pointer (some ⟨p, 0, none⟩)] (grpR p a cap f ch) (.int .i64 (lastM ch)) := by
  refine RO.enter Tryz.func35 rfl (by decide) rfl Tryz.ntmps35 rfl (fun A hu hA => ?_) (up_grpR _ _ _ _ _)
  have hE1 : ∀ {L}, A ∈ L → Ent L (cellsAt p 0 (bools f ++ [.slice a ch.length cap])) := fun m => Ent.mem m hu fun k x => (hA k x).1
  have hE2 : ∀ {L}, A ∈ L → Ent L (readS a ch.length 3 (encL ch)) := fun m => Ent.mem m hu fun k x => (hA k x).2
  have hg : (bools f ++ [Value.slice a ch.length cap])[4]? = some (.slice a ch.length cap) := by
    obtain ⟨f0, f1, f2, f3, rfl⟩ := four hf; rfl
  repeat (first | refine GO ?_ | refine NW fun _ => ?_)
  refine WL.guardT rfl rfl rfl rfl (OP.load1 (v := .slice a ch.length cap) rfl rfl rfl rfl (Ent.one (i := 4) (hE1 MM) hg) rfl rfl ?_)
  by_cases h0 : ch.length = 0
  · repeat (first | refine GD ?_ | refine NW fun _ => ?_)
    have : ch = [] := List.length_eq_zero_iff.1 h0
    subst this
    exact ret1 rfl ⟨rfl, MM⟩
  · repeat (first | refine GD ?_ | refine NW fun _ => ?_)
    refine WC.fact (Ent.some (hE2 MM) (by omega)) ?_
    rintro ⟨b, off, rfl⟩
    refine RD 14 14 ([A]) ?_
    refine WW 0 ?_; refine WW 1 ?_; refine WW 2 ?_
    refine VL 3 (.slice (some ⟨b, off, none⟩) ch.length cap) rfl rfl rfl rfl (.inl ⟨rfl, Ent.one (i := 4) (hE1 MM) hg⟩) ?_
    refine WW 4 ?_; refine WW 5 ?_; refine WW 6 ?_
    refine VL 7 (.slice (some ⟨b, off, none⟩) ch.length cap) rfl rfl rfl rfl (.inl ⟨rfl, Ent.one (i := 4) (hE1 MM) hg⟩) ?_
    refine WW 8 ?_; refine WW 9 ?_; refine WW 10 ?_; refine WW 11 ?_
    refine VL 12 (.int .i64 (ch[ch.length - 1]'(by omega)).1) rfl rfl rfl rfl (.inl ⟨rfl, by rw [show ((ch.length : Int) - 1).toNat = ch.length - 1 from by omega]; exact Ent.elem (i := (ch.length - 1) * 3 + 0) (hE2 MM) rfl (encL_get _ _ _ (by omega) (by decide))⟩) ?_
    refine WW 13 ?_
    refine DN ?_
    repeat (first | refine GO ?_ | refine NW fun _ => ?_)
    refine ret1 rfl ⟨?_, MM⟩
    unfold lastM
    rw [List.getLast?_eq_getElem?, List.getElem?_eq_getElem (by omega)]
end Go.Proofs.YtleajkobmhhacaaGreatDoor
/- Contracts of functions of the given program, and plain laws on what they compute: parts of the proofs of laws. -/

namespace Go.Proofs.YtleajkobmhhacaaGreatDoor
open Go Go.GL

def grpL (p : Nat) (a : Option Addr) (n cap : Nat) (f : List Bool) (ch : List Ch) : List Assn := [blk p (bools f ++ [.slice a n cap]) 185, ownS a n cap 187 3 (encL ch)]
/-- what is wrong with a change -/
def putM (f : List Bool) (ch : List Ch) (c : Ch) : Option Int :=
  if ¬ (0 ≤ c.2.1 ∧ c.2.1 < 4) then some 5
  else if c.1 ≤ lastM ch then some 10
  else if 1152921504606846975 < c.1 then some 1
  else if (after f ch).getD c.2.1.toNat false ≠ c.2.2 then some 9
  else if 100 ≤ ch.length then some 6
  else none
def PutPost (p : Nat) (a : Option Addr) (cap : Nat) (f : List Bool) (ch : List Ch) (c : Ch) (v : Value) (M : List Assn) : Prop :=
  match putM f ch c with
  | some code => ∃ E, Fault member c.2.1 code v E ∧ M = E ++ grpL p a ch.length cap f ch
  | none => v = .nilIface ∧ ∃ a' cap', M = grpL p a' (ch.length + 1) cap' f (ch ++ [c])

set_option maxHeartbeats 4000000 in
set_option maxRecDepth 10000 in
theorem put_ok (p : Nat) (a : Option Addr) (cap : Nat) (f : List Bool) (ch : List Ch) (c : Ch) (hf : f.length = 4) (hv : Vols ch) (hs : ch.length ≤ 100) :
    Triple G 212 [.pointer (some ⟨p, 0, none⟩), .agg (encC c).toArray] (grpL p a ch.length cap f ch) (PutPost p a cap f ch c) := by
  refine Triple.enter Tryz.func212 rfl (by decide) rfl Tryz.ntmps212 rfl (fun F => ?_)
  obtain ⟨mark, vol, gone⟩ := c
  obtain ⟨f0, f1, f2, f3, rfl⟩ := four hf
  have hR : ∀ {L}, blk p (bools [f0, f1, f2, f3] ++ [.slice a ch.length cap]) 185 ∈ L → ownS a ch.length cap 187 3 (encL ch) ∈ L → Ent L (grpR p a cap [f0, f1, f2, f3] ch) := fun m1 m2 => Ent.and (Ent.whole m1) (Ent.own m2)
  refine WC.fact (Ent.ownLe (a := a) (n := ch.length) (cap := cap) (T := 187) (size := 3) (cs := encL ch) MM) (fun hc => ?_)
  repeat (first | refine GO ?_ | refine NW fun _ => ?_)
  refine WL.step rfl (OP.callRO rfl rfl (there_ro _) (fun _ _ => trivial) rfl rfl ?_)
  by_cases h1 : 0 ≤ vol ∧ vol < 4
  rotate_left
  · simp only [h1, decide_false]
    repeat (first | refine GO ?_ | refine NW fun _ => ?_)
    refine WL.step rfl (OP.call (pre := []) (F := _) rfl rfl (wrong_ok _ _ (by decide)) (Imp.refl _) rfl rfl ?_)
    rintro v' E ⟨b', rfl, rfl⟩
    repeat (first | refine GO ?_ | refine NW fun _ => ?_)
    refine ret1 rfl ⟨[_] ++ grpL p a ch.length cap _ ch, ?_, II⟩
    unfold PutPost putM
    rw [if_pos h1]
    exact ⟨_, ⟨_, rfl, rfl⟩, rfl⟩
  simp only [h1, and_self, decide_true]
  repeat (first | refine GO ?_ | refine NW fun _ => ?_)
  refine WC.regionD 6 6 _ rfl (by kernel_rfl) (Imp.refl _) ?_
  refine WW 0 ?_; refine WW 1 ?_; refine WW 2 ?_
  refine WH.only 3 rfl rfl (by kernel_rfl) rfl (OP.callRO rfl rfl (last_ro p a cap _ ch hf (by omega)) (hR MM MM) rfl rfl ⟨fun _ => Imp.refl _, ?_⟩)
  refine WW 4 ?_; refine WW 5 ?_
  refine DN ?_
  by_cases h2 : mark ≤ lastM ch
  · simp only [h2, decide_true]
    repeat (first | refine GO ?_ | refine NW fun _ => ?_)
    refine WL.step rfl (OP.call (pre := []) (F := _) rfl rfl (wrong_ok _ _ (by decide)) (Imp.refl _) rfl rfl ?_)
    rintro v' E ⟨b', rfl, rfl⟩
    repeat (first | refine GO ?_ | refine NW fun _ => ?_)
    refine ret1 rfl ⟨[_] ++ grpL p a ch.length cap _ ch, ?_, II⟩
    unfold PutPost putM
    rw [if_neg (not_not_intro h1), if_pos h2]
    exact ⟨_, ⟨_, rfl, rfl⟩, rfl⟩
  simp only [h2, decide_false]
  by_cases h3 : 1152921504606846975 < mark
  · repeat (first | refine GD ?_ | refine NW fun _ => ?_)
    repeat (first | refine GO ?_ | refine NW fun _ => ?_)
    refine WL.step rfl (OP.call (pre := []) (F := _) rfl rfl (wrong_ok _ _ (by decide)) (Imp.refl _) rfl rfl ?_)
    rintro v' E ⟨b', rfl, rfl⟩
    repeat (first | refine GO ?_ | refine NW fun _ => ?_)
    refine ret1 rfl ⟨[_] ++ grpL p a ch.length cap _ ch, ?_, II⟩
    unfold PutPost putM
    rw [if_neg (not_not_intro h1), if_neg h2, if_pos h3]
    exact ⟨_, ⟨_, rfl, rfl⟩, rfl⟩
  repeat (first | refine GD ?_ | refine NW fun _ => ?_)
  have hbeh := behind_ro p a cap [f0, f1, f2, f3] ch ch.length rfl hv (Nat.le_refl _) hc (by omega)
  rw [List.take_length] at hbeh
  obtain ⟨s0, s1, s2, s3, hsv⟩ := four (show (after [f0, f1, f2, f3] ch).length = 4 by rw [after_length]; rfl)
  rw [hsv] at hbeh
  refine WC.regionD 14 14 _ rfl (by kernel_rfl) (Imp.refl _) ?_
  refine WW 0 ?_; refine WW 1 ?_; refine WW 2 ?_; refine WW 3 ?_; refine WW 4 ?_; refine WW 5 ?_
  refine WW 7 ?_; refine WW 8 ?_
  refine WW 10 ?_; refine WW 11 ?_
  refine WH.only 6 rfl rfl (by kernel_rfl) rfl (OP.callRO rfl rfl hbeh (hR MM MM) rfl rfl ⟨fun _ => Imp.refl _, ?_⟩)
  obtain rfl | rfl | rfl | rfl : vol = 0 ∨ vol = 1 ∨ vol = 2 ∨ vol = 3 := by omega
  all_goals
    refine WW 9 ?_
    refine WW 12 ?_; refine WW 13 ?_
    refine DN ?_
    refine WC.cond rfl (fun hb => ?_) (fun hb => ?_)
    · repeat (first | refine GO ?_ | refine NW fun _ => ?_)
      refine WL.step rfl (OP.call (pre := []) (F := _) rfl rfl (wrong_ok _ _ (by decide)) (Imp.refl _) rfl rfl ?_)
      rintro v' E ⟨b', rfl, rfl⟩
      repeat (first | refine GO ?_ | refine NW fun _ => ?_)
      refine ret1 rfl ⟨[_] ++ grpL p a ch.length cap _ ch, ?_, II⟩
      unfold PutPost putM
      rw [if_neg (not_not_intro h1), if_neg h2, if_neg h3, if_pos]
      · exact ⟨_, ⟨_, rfl, rfl⟩, rfl⟩
      · rw [hsv]; simpa using hb
    · by_cases h5 : 100 ≤ ch.length
      · repeat (first | refine GD ?_ | refine NW fun _ => ?_)
        repeat (first | refine GO ?_ | refine NW fun _ => ?_)
        refine WL.step rfl (OP.call (pre := []) (F := _) rfl rfl (wrong_ok _ _ (by decide)) (Imp.refl _) rfl rfl ?_)
        rintro v' E ⟨b', rfl, rfl⟩
        repeat (first | refine GO ?_ | refine NW fun _ => ?_)
        refine ret1 rfl ⟨[_] ++ grpL p a ch.length cap _ ch, ?_, II⟩
        unfold PutPost putM
        rw [if_neg (not_not_intro h1), if_neg h2, if_neg h3, if_neg, if_pos h5]
        · exact ⟨_, ⟨_, rfl, rfl⟩, rfl⟩
        · rw [hsv]; simpa using hb
      · repeat (first | refine GD ?_ | refine NW fun _ => ?_)
        refine WC.regionD 8 11 [_, _] rfl (by kernel_rfl) (Imp.sub (L := _ :: _ :: _) (Picks.cons (Pick.here _ _) (Picks.cons (Pick.here _ _) (Picks.nil _)))) ?_
        refine WW 0 ?_; refine WW 1 ?_; refine WW 2 ?_; refine WW 3 ?_; refine WW 4 ?_; refine WW 5 ?_
        refine WH.only 6 rfl rfl (by kernel_rfl) rfl (OP.sliceLit rfl rfl rfl rfl rfl rfl rfl rfl (fun b' => ⟨fun _ => II, ?_⟩))
        refine WH.only 7 rfl rfl (by kernel_rfl) rfl (OP.append rfl rfl rfl rfl rfl rfl rfl rfl rfl P1 (Ent.own MM) rfl (by omega) (by omega) rfl rfl (fun a' cap' => ⟨fun _ => II, ?_⟩))
        refine WW 8 ?_; refine WW 9 ?_
        refine WH.only 10 rfl rfl (by kernel_rfl) rfl (OP.store rfl rfl rfl rfl rfl rfl rfl UP rfl ⟨(fun h => nomatch h), ?_⟩)
        refine DN ?_
        repeat (first | refine GO ?_ | refine NW fun _ => ?_)
        refine ret1 rfl ⟨[blk p (bools [f0, f1, f2, f3] ++ [.slice a' (ch.length + 1) cap']) 185, ownS a' (ch.length + 1) cap' 187 3 (encL ch ++ encC _)], ?_, II⟩
        unfold PutPost putM
        rw [if_neg (not_not_intro h1), if_neg h2, if_neg h3, if_neg, if_neg h5]
        · exact ⟨rfl, a', cap', by unfold grpL; rw [encL_snoc]⟩
        · rw [hsv]; simpa using hb
end Go.Proofs.YtleajkobmhhacaaGreatDoor
/- Contracts of functions of the given program, and plain laws on what they compute: parts of the proofs of laws. -/

namespace Go.Proofs.YtleajkobmhhacaaGreatDoor
open Go Go.GL

set_option maxRecDepth 10000 in
theorem add_ok (p : Nat) (a : Option Addr) (cap : Nat) (f : List Bool) (ch : List Ch) (v m : Int) (hf : f.length = 4) (hv : Vols ch) (hs : ch.length ≤ 100) :
    Triple G 164 [.pointer (some ⟨p, 0, none⟩), .int .i64 v, .int .i64 m] (grpL p a ch.length cap f ch) (PutPost p a cap f ch (m, v, false)) := by
  refine Triple.enter Tryz.func164 rfl (by decide) rfl Tryz.ntmps164 rfl (fun F => ?_)
  repeat (first | refine GO ?_ | refine NW fun _ => ?_)
  refine WL.step rfl (OP.call (pre := grpL p a ch.length cap f ch) (F := [F]) rfl rfl (put_ok p a cap f ch (m, v, false) hf hv hs) (Imp.refl _) rfl rfl ?_)
  rintro v' M hM
  repeat (first | refine GO ?_ | refine NW fun _ => ?_)
  exact ret1 rfl ⟨M, hM, Imp.refl _⟩
set_option maxRecDepth 10000 in
theorem remove_ok (p : Nat) (a : Option Addr) (cap : Nat) (f : List Bool) (ch : List Ch) (v m : Int) (hf : f.length = 4) (hv : Vols ch) (hs : ch.length ≤ 100) :
    Triple G 165 [.pointer (some ⟨p, 0, none⟩), .int .i64 v, .int .i64 m] (grpL p a ch.length cap f ch) (PutPost p a cap f ch (m, v, true)) := by
  refine Triple.enter Tryz.func165 rfl (by decide) rfl Tryz.ntmps165 rfl (fun F => ?_)
  repeat (first | refine GO ?_ | refine NW fun _ => ?_)
  refine WL.step rfl (OP.call (pre := grpL p a ch.length cap f ch) (F := [F]) rfl rfl (put_ok p a cap f ch (m, v, true) hf hv hs) (Imp.refl _) rfl rfl ?_)
  rintro v' M hM
  repeat (first | refine GO ?_ | refine NW fun _ => ?_)
  exact ret1 rfl ⟨M, hM, Imp.refl _⟩
end Go.Proofs.YtleajkobmhhacaaGreatDoor
/- Contracts of functions of the given program, and plain laws on what they compute: parts of the proofs of laws. -/

namespace Go.Proofs.YtleajkobmhhacaaGreatDoor
open Go Go.GL

/-- the changes behind a put -/
def putCh (f : List Bool) (ch : List Ch) (c : Ch) : List Ch := match putM f ch c with
  | none => ch ++ [c]
  | some _ => ch
theorem Imp.dropL (E L : List Assn) : Imp (E ++ L) L := by
  induction E with
  | nil => exact Imp.refl _
  | cons x r ih => exact Imp.dropTail ih
theorem put_any {p : Nat} {a : Option Addr} {cap : Nat} {f : List Bool} {ch : List Ch} {c : Ch} {v : Value} {M : List Assn} (h : PutPost p a cap f ch c v M) :
    ∃ a' cap', Imp M (grpL p a' (putCh f ch c).length cap' f (putCh f ch c)) := by
  unfold PutPost at h
  unfold putCh
  split at h
  · rename_i code e
    rw [e]
    obtain ⟨E, _, rfl⟩ := h
    exact ⟨a, cap, Imp.dropL _ _⟩
  · rename_i e
    rw [e]
    obtain ⟨_, a', cap', rfl⟩ := h
    exact ⟨a', cap', by simp only [List.length_append, List.length_singleton]; exact Imp.refl _⟩
theorem putCh_inv {f : List Bool} {ch : List Ch} {c : Ch} (hv : Vols ch) (hs : ch.length ≤ 100) : Vols (putCh f ch c) ∧ (putCh f ch c).length ≤ 100 := by
  unfold putCh
  split
  · rename_i e
    unfold putM at e
    split at e
    · cases e
    · rename_i h1
      split at e
      · cases e
      split at e
      · cases e
      split at e
      · cases e
      split at e
      · cases e
      · refine ⟨fun x hx => ?_, by simp; omega⟩
        rcases List.mem_append.1 hx with hx | hx
        · exact hv x hx
        · simp only [List.mem_singleton] at hx; subst hx; exact Decidable.not_not.1 h1
  · exact ⟨hv, hs⟩
abbrev Op3 := Int × Int × Int
def encO (o : Op3) : List Value := [.int .i64 o.1, .int .i64 o.2.1, .int .i64 o.2.2]
def encOs (l : List Op3) : List Value := l.flatMap encO
theorem flat_at {α : Type} (enc : α → List Value) (m : Nat) (he : ∀ x, (enc x).length = m) (l : List α) (k : Nat) (h : k < l.length) : enc l[k] = ((l.flatMap enc).drop (k * m)).take m := by
  induction l generalizing k with
  | nil => simp at h
  | cons c r ih =>
    cases k with
    | zero => simp [← he c]
    | succ k =>
      have e : (k + 1) * m = m + k * m := by rw [Nat.succ_mul, Nat.add_comm]
      have := ih k (by simpa using h)
      simp only [List.flatMap_cons, List.getElem_cons_succ]
      rw [this, e, ← List.drop_drop, List.drop_left' (he c)]
theorem flat_get {α : Type} (enc : α → List Value) (m : Nat) (he : ∀ x, (enc x).length = m) (l : List α) (k j : Nat) (h : k < l.length) (hj : j < m) : (l.flatMap enc)[k * m + j]? = (enc l[k])[j]? := by
  rw [flat_at enc m he l k h, List.getElem?_take, if_pos hj, List.getElem?_drop]
def stepO (f : List Bool) (ch : List Ch) (o : Op3) : List Ch :=
  if o.1 = 1 then putCh f ch (o.2.2, o.2.1, false) else if o.1 = 2 then putCh f ch (o.2.2, o.2.1, true) else ch
def playM (f : List Bool) (ch : List Ch) (l : List Op3) : List Ch := l.foldl (stepO f) ch
theorem stepO_inv {f : List Bool} {ch : List Ch} {o : Op3} (hv : Vols ch) (hs : ch.length ≤ 100) : Vols (stepO f ch o) ∧ (stepO f ch o).length ≤ 100 := by
  unfold stepO
  split
  · exact putCh_inv hv hs
  · split
    · exact putCh_inv hv hs
    · exact ⟨hv, hs⟩
theorem playM_snoc (f : List Bool) (ch : List Ch) (l : List Op3) (o : Op3) : playM f ch (l ++ [o]) = stepO f (playM f ch l) o := by simp [playM]
theorem playM_inv {f : List Bool} {ch : List Ch} (l : List Op3) (hv : Vols ch) (hs : ch.length ≤ 100) : Vols (playM f ch l) ∧ (playM f ch l).length ≤ 100 := by
  induction l generalizing ch with
  | nil => exact ⟨hv, hs⟩
  | cons o r ih => exact ih (stepO_inv hv hs).1 (stepO_inv hv hs).2
end Go.Proofs.YtleajkobmhhacaaGreatDoor
/- Contracts of functions of the given program, and plain laws on what they compute: parts of the proofs of laws. -/
namespace Go.Proofs.YtleajkobmhhacaaGreatDoor
open Go Go.GL

/-- no change is later than the last one -/
def Srt (ch : List Ch) : Prop := ∀ c ∈ ch, c.1 ≤ lastM ch
def atM (m : Int) (f : List Bool) (ch : List Ch) : List Bool := after f (ch.take (cnt m ch))
theorem atM_length (m : Int) (f : List Bool) (ch : List Ch) : (atM m f ch).length = f.length := after_length _ _
theorem lastM_snoc (ch : List Ch) (c : Ch) : lastM (ch ++ [c]) = c.1 := by simp [lastM]
theorem put_none {f : List Bool} {ch : List Ch} {c : Ch} (h : putM f ch c = none) : (0 ≤ c.2.1 ∧ c.2.1 < 4) ∧ lastM ch < c.1 ∧ c.1 ≤ 1152921504606846975 ∧ (after f ch).getD c.2.1.toNat false = c.2.2 ∧ ch.length < 100 := by
  unfold putM at h
  split at h
  · cases h
  split at h
  · cases h
  split at h
  · cases h
  split at h
  · cases h
  split at h
  · cases h
  · rename_i h1 h2 h3 h4 h5
    exact ⟨Decidable.not_not.1 h1, by omega, by omega, Decidable.not_not.1 h4, by omega⟩
theorem putCh_cases (f : List Bool) (ch : List Ch) (c : Ch) : (putM f ch c = none ∧ putCh f ch c = ch ++ [c]) ∨ ((∃ x, putM f ch c = some x) ∧ putCh f ch c = ch) := by
  unfold putCh
  cases h : putM f ch c with
  | none => exact .inl ⟨rfl, rfl⟩
  | some x => exact .inr ⟨⟨x, rfl⟩, rfl⟩
theorem srt_put {f : List Bool} {ch : List Ch} {c : Ch} (h : Srt ch) : Srt (putCh f ch c) := by
  rcases putCh_cases f ch c with ⟨e, e2⟩ | ⟨_, e2⟩
  · rw [e2]
    intro x hx
    rw [lastM_snoc]
    have := (put_none e).2.1
    rcases List.mem_append.1 hx with hx | hx
    · have := h x hx; omega
    · simp only [List.mem_singleton] at hx; subst hx; omega
  · rw [e2]; exact h
theorem srt_stepO {f : List Bool} {ch : List Ch} {o : Op3} (h : Srt ch) : Srt (stepO f ch o) := by
  unfold stepO
  split
  · exact srt_put h
  · split
    · exact srt_put h
    · exact h
theorem srt_play {f : List Bool} {ch : List Ch} (l : List Op3) (h : Srt ch) : Srt (playM f ch l) := by
  induction l generalizing ch with
  | nil => exact h
  | cons o r ih => exact ih (srt_stepO h)
theorem cnt_full {m : Int} {ch : List Ch} (hs : Srt ch) (h : lastM ch ≤ m) : cnt m ch = ch.length :=
  cnt_all fun j hj => by have := hs _ (List.getElem_mem hj); omega
theorem atM_high {m : Int} {f : List Bool} {ch : List Ch} (hs : Srt ch) (h : lastM ch ≤ m) : atM m f ch = after f ch := by
  unfold atM
  rw [cnt_full hs h, List.take_length]
theorem tw_snoc {α : Type} (p : α → Bool) (l : List α) (x : α) (h : p x = false ∨ ∃ y ∈ l, p y = false) : (l ++ [x]).takeWhile p = l.takeWhile p := by
  induction l with
  | nil =>
    rcases h with h | ⟨y, hy, _⟩
    · simp [h]
    · cases hy
  | cons a r ih =>
    rw [List.cons_append, List.takeWhile_cons, List.takeWhile_cons]
    by_cases ha : p a = true
    · rw [if_pos ha, if_pos ha, ih]
      rcases h with h | ⟨y, hy, h⟩
      · exact .inl h
      · rcases List.mem_cons.1 hy with rfl | hy
        · rw [ha] at h; cases h
        · exact .inr ⟨y, hy, h⟩
    · rw [if_neg ha, if_neg ha]
theorem last_mem {ch : List Ch} (h : ch ≠ []) : ∃ y ∈ ch, y.1 = lastM ch := by
  refine ⟨ch.getLast h, List.getLast_mem h, ?_⟩
  unfold lastM
  rw [List.getLast?_eq_some_getLast h]
theorem atM_low {m : Int} {f : List Bool} {ch : List Ch} {c : Ch} (h : m < c.1 ∨ (m < lastM ch ∧ ch ≠ [])) : atM m f (ch ++ [c]) = atM m f ch := by
  unfold atM cnt
  rw [tw_snoc, List.take_append_of_le_length (List.takeWhile_sublist _).length_le]
  rcases h with h | ⟨h, hn⟩
  · exact .inl (by simpa using h)
  · obtain ⟨y, hy, e⟩ := last_mem hn
    exact .inr ⟨y, hy, by simp; omega⟩
theorem newM_length : ∀ {l : List Int} {f f' : List Bool}, newM l f = .ok f' → f'.length = f.length
  | [], f, f', h => by cases h; rfl
  | v :: r, f, f', h => by
    rw [newM_cons] at h
    split at h
    · split at h
      · cases h
      · rw [newM_length h]; simp
    · cases h
theorem listM_step (a b c d x : Bool) (v : Int) (hv : 0 ≤ v ∧ v < 4) : (listM ([a, b, c, d].set v.toNat x)).length ≤ (listM [a, b, c, d]).length + 1 ∧ (listM [a, b, c, d]).length ≤ (listM ([a, b, c, d].set v.toNat x)).length + 1 := by
  obtain rfl | rfl | rfl | rfl : v = 0 ∨ v = 1 ∨ v = 2 ∨ v = 3 := by omega
  all_goals revert a b c d x; decide
theorem listM_len (f : List Bool) : (listM f).length ≤ f.length := by
  unfold listM
  rw [List.length_map]
  exact Nat.le_trans (List.length_filter_le _ _) (by simp)
/-- by one change at most -/
def OneMore (_f : List Bool) (ch ch' : List Ch) (m : Int) : Prop := ch' = ch ∨ ∃ c : Ch, c.1 = m ∧ (0 ≤ c.2.1 ∧ c.2.1 < 4) ∧ lastM ch < m ∧ ch' = ch ++ [c]
theorem one_put (f : List Bool) (ch : List Ch) (c : Ch) : OneMore f ch (putCh f ch c) c.1 := by
  rcases putCh_cases f ch c with ⟨e, e2⟩ | ⟨_, e2⟩
  · exact .inr ⟨c, rfl, (put_none e).1, (put_none e).2.1, e2⟩
  · exact .inl e2
theorem one_two (f : List Bool) (ch : List Ch) (v m : Int) : OneMore f ch (putCh f (putCh f ch (m, v, false)) (m, v, true)) m := by
  rcases putCh_cases f ch (m, v, false) with ⟨e, e2⟩ | ⟨_, e2⟩
  · rcases putCh_cases f (putCh f ch (m, v, false)) (m, v, true) with ⟨x, x2⟩ | ⟨_, x2⟩
    · have := (put_none x).2.1
      rw [e2, lastM_snoc] at this
      simp only [] at this
      omega
    · rw [x2]; exact one_put _ _ _
  · rw [e2]; exact one_put _ _ _
theorem stays_low {f : List Bool} {ch ch' : List Ch} {m mark : Int} (h : OneMore f ch ch' m) (hl : mark < m ∨ mark < lastM ch) : atM mark f ch' = atM mark f ch := by
  rcases h with rfl | ⟨c, rfl, _, hc, rfl⟩
  · rfl
  · by_cases h1 : mark < c.1
    · exact atM_low (.inl h1)
    · omega
theorem stays_high {f : List Bool} {ch ch' : List Ch} {m mark : Int} (h : OneMore f ch ch' m) (hf : f.length = 4) (hs : Srt ch) (hl : ¬ mark < m) (hl2 : ¬ mark < lastM ch) :
    (listM (atM mark f ch')).length ≤ (listM (atM mark f ch)).length + 1 ∧ (listM (atM mark f ch)).length ≤ (listM (atM mark f ch')).length + 1 := by
  rcases h with rfl | ⟨c, rfl, hv, hc, rfl⟩
  · omega
  · have hs' : Srt (ch ++ [c]) := by
      intro x hx
      rw [lastM_snoc]
      rcases List.mem_append.1 hx with hx | hx
      · have := hs x hx; omega
      · simp only [List.mem_singleton] at hx; subst hx; omega
    rw [atM_high hs (by omega), atM_high hs' (by rw [lastM_snoc]; omega), after_snoc]
    obtain ⟨a, b, c', d, e⟩ := four (show (after f ch).length = 4 by rw [after_length, hf])
    rw [e]
    exact listM_step _ _ _ _ _ _ hv
theorem one_vols {f : List Bool} {ch ch' : List Ch} {m : Int} (h : OneMore f ch ch' m) (hv : Vols ch) (hs : ch.length ≤ 100) : Vols ch' ∧ ch'.length ≤ 101 := by
  rcases h with rfl | ⟨c, rfl, hv', hc, rfl⟩
  · exact ⟨hv, by omega⟩
  · refine ⟨fun x hx => ?_, by simp; omega⟩
    rcases List.mem_append.1 hx with hx | hx
    · exact hv x hx
    · simp only [List.mem_singleton] at hx; subst hx; exact hv'
end Go.Proofs.YtleajkobmhhacaaGreatDoor
/- Contracts of functions of the given program, and plain laws on what they compute: parts of the proofs of laws. -/
namespace Go.Proofs.YtleajkobmhhacaaGreatDoor
open Go Go.GL

def setAll (f : List Bool) (l : List Int) : List Bool := l.foldl (fun f v => f.set v.toNat true) f
theorem setAll_length (f : List Bool) (l : List Int) : (setAll f l).length = f.length := by
  induction l generalizing f with
  | nil => rfl
  | cons v r ih => simp only [setAll, List.foldl_cons] at *; rw [ih]; simp
theorem setAll_get (f : List Bool) (l : List Int) (hl : ∀ v ∈ l, 0 ≤ v) (k : Nat) (hk : k < f.length) : (setAll f l).getD k false = (f.getD k false || decide ((k : Int) ∈ l)) := by
  induction l generalizing f with
  | nil => simp [setAll]
  | cons v r ih =>
    have h := ih (f.set v.toNat true) (fun x hx => hl x (List.mem_cons_of_mem _ hx)) (by simpa using hk)
    have e : setAll f (v :: r) = setAll (f.set v.toNat true) r := rfl
    rw [e, h]
    have hv := hl v (List.mem_cons_self)
    by_cases hkv : (k : Int) = v
    · have : v.toNat = k := by omega
      subst this
      simp [hk, hkv]
    · have h1 : v.toNat ≠ k := by omega
      have h2 : decide ((k : Int) ∈ v :: r) = decide ((k : Int) ∈ r) := by simp [hkv]
      rw [h2]
      congr 1
      simp [List.getD, h1]
theorem newM_iff (l : List Int) (f g : List Bool) (hf : f.length = 4) : newM l f = .ok g ↔ ((∀ v ∈ l, 0 ≤ v ∧ v < 4) ∧ l.Nodup ∧ (∀ v ∈ l, f.getD v.toNat false = false) ∧ g = setAll f l) := by
  induction l generalizing f with
  | nil =>
    unfold newM
    constructor
    · intro h; cases h; simp [setAll]
    · rintro ⟨_, _, _, rfl⟩; rfl
  | cons v r ih =>
    rw [newM_cons]
    by_cases hv : 0 ≤ v ∧ v < 4
    · rw [if_pos hv]
      by_cases hb : f.getD v.toNat false = true
      · rw [if_pos hb]
        constructor
        · intro h; cases h
        · rintro ⟨_, _, h, _⟩
          have := h v (List.mem_cons_self)
          rw [hb] at this; cases this
      · rw [if_neg hb, ih _ (by simpa using hf)]
        have hb : f.getD v.toNat false = false := by simpa using hb
        have e : setAll f (v :: r) = setAll (f.set v.toNat true) r := rfl
        rw [e]
        have key : ∀ x ∈ r, 0 ≤ x → ((f.set v.toNat true).getD x.toNat false = false ↔ (x ≠ v ∧ f.getD x.toNat false = false)) := by
          intro x hx x0
          by_cases hxv : x = v
          · subst hxv
            have : x.toNat < f.length := by omega
            simp [List.getD, this]
          · have h1 : v.toNat ≠ x.toNat := by omega
            simp [List.getD, h1, hxv]
        constructor
        · rintro ⟨h1, h2, h3, h4⟩
          refine ⟨?_, ?_, ?_, h4⟩
          · intro x hx
            rcases List.mem_cons.1 hx with rfl | hx
            · exact hv
            · exact h1 x hx
          · refine List.nodup_cons.2 ⟨fun hm => ?_, h2⟩
            exact ((key v hm hv.1).1 (h3 v hm)).1 rfl
          · intro x hx
            rcases List.mem_cons.1 hx with rfl | hx
            · exact hb
            · exact ((key x hx (h1 x hx).1).1 (h3 x hx)).2
        · rintro ⟨h1, h2, h3, h4⟩
          obtain ⟨h2a, h2b⟩ := List.nodup_cons.1 h2
          refine ⟨fun x hx => h1 x (List.mem_cons_of_mem _ hx), h2b, fun x hx => ?_, h4⟩
          exact (key x hx (h1 x (List.mem_cons_of_mem _ hx)).1).2 ⟨fun e => h2a (e ▸ hx), h3 x (List.mem_cons_of_mem _ hx)⟩
    · rw [if_neg hv]
      constructor
      · intro h; cases h
      · rintro ⟨h, _⟩; exact absurd (h v (List.mem_cons_self)) hv
def f0 : List Bool := [false, false, false, false]
theorem setAll_rev (l : List Int) (hl : ∀ v ∈ l, 0 ≤ v) : setAll f0 l.reverse = setAll f0 l := by
  apply List.ext_getElem
  · rw [setAll_length, setAll_length]
  · intro k h1 h2
    have hk : k < f0.length := by rw [setAll_length] at h1; exact h1
    have e1 := setAll_get f0 l hl k hk
    have e2 := setAll_get f0 l.reverse (fun v hv => hl v (List.mem_reverse.1 hv)) k hk
    rw [show (setAll f0 l).getD k false = (setAll f0 l)[k] by simp [List.getD, h2]] at e1
    rw [show (setAll f0 l.reverse).getD k false = (setAll f0 l.reverse)[k] by simp [List.getD, h1]] at e2
    rw [e1, e2]
    simp
theorem newM_rev {l : List Int} {g : List Bool} (h : newM l f0 = .ok g) : newM l.reverse f0 = .ok g := by
  obtain ⟨h1, h2, h3, h4⟩ := (newM_iff l f0 g rfl).1 h
  refine (newM_iff _ f0 g rfl).2 ⟨fun v hv => h1 v (List.mem_reverse.1 hv), (List.reverse_perm l).nodup_iff.2 h2, fun v hv => h3 v (List.mem_reverse.1 hv), ?_⟩
  rw [h4, setAll_rev l (fun v hv => (h1 v hv).1)]
theorem newM_rev_err {l : List Int} {e : Int × Int} (h : newM l f0 = .error e) : ∃ e', newM l.reverse f0 = .error e' := by
  cases h2 : newM l.reverse f0 with
  | error e' => exact ⟨e', rfl⟩
  | ok g =>
    have := newM_rev h2
    rw [List.reverse_reverse, h] at this
    cases this
theorem newM_code {l : List Int} {f : List Bool} {v c : Int} (h : newM l f = .error (v, c)) : c = 5 ∨ c = 1 := by
  induction l generalizing f with
  | nil => cases h
  | cons x r ih =>
    rw [newM_cons] at h
    split at h
    · split at h
      · cases h; exact .inr rfl
      · exact ih h
    · cases h; exact .inl rfl
theorem listM_rise (f : List Bool) (hf : f.length = 4) : (listM f).Pairwise (· < ·) := by
  obtain ⟨a, b, c, d, rfl⟩ : ∃ a b c d, f = [a, b, c, d] := by
    match f, hf with
    | [a, b, c, d], _ => exact ⟨a, b, c, d, rfl⟩
  cases a <;> cases b <;> cases c <;> cases d <;> decide
theorem mem_listB (f : List Bool) (k : Nat) (hk : k < f.length) : ((k : Int) ∈ listM f) ↔ f.getD k false = true := by
  unfold listM
  constructor
  · intro h
    obtain ⟨a, ha, e⟩ := List.mem_map.1 h
    have := (List.mem_filter.1 ha).2
    have e : a = k := Int.ofNat.inj e
    subst e
    exact this
  · intro h
    exact List.mem_map.2 ⟨k, List.mem_filter.2 ⟨List.mem_range.2 hk, h⟩, rfl⟩
theorem order_mem {l : List Int} {g : List Bool} (h : newM l f0 = .ok g) (v : Int) : v ∈ listM g ↔ v ∈ l := by
  obtain ⟨h1, h2, h3, h4⟩ := (newM_iff l f0 g rfl).1 h
  have hgl : g.length = 4 := by rw [h4, setAll_length]; rfl
  have hin : ∀ v : Int, 0 ≤ v → v < 4 → (v ∈ listM g ↔ v ∈ l) := by
    intro v v0 v4
    have e := mem_listB g v.toNat (by omega)
    have e2 := setAll_get f0 l (fun v hv => (h1 v hv).1) v.toNat (by show v.toNat < 4; omega)
    rw [Int.toNat_of_nonneg v0] at e e2
    rw [e, h4, e2]
    have : f0.getD v.toNat false = false := by
      obtain rfl | rfl | rfl | rfl : v = 0 ∨ v = 1 ∨ v = 2 ∨ v = 3 := by omega
      all_goals rfl
    rw [this]
    simp
  constructor
  · intro hv
    have := hv
    unfold listM at this
    obtain ⟨a, ha, rfl⟩ := List.mem_map.1 this
    have := List.mem_range.1 (List.mem_filter.1 ha).1
    exact (hin _ (Int.natCast_nonneg _) (by show (a : Int) < 4; omega)).1 hv
  · intro hv
    exact (hin v (h1 v hv).1 (h1 v hv).2).2 hv
theorem order_len {l : List Int} {g : List Bool} (h : newM l f0 = .ok g) : (listM g).length = l.length := by
  obtain ⟨h1, h2, h3, h4⟩ := (newM_iff l f0 g rfl).1 h
  have hgl : g.length = 4 := by rw [h4, setAll_length]; rfl
  have hn : (listM g).Nodup := (listM_rise g hgl).imp (fun h => by omega)
  exact ((List.perm_ext_iff_of_nodup hn h2).2 (order_mem h)).length_eq
end Go.Proofs.YtleajkobmhhacaaGreatDoor
