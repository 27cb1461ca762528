/- Contracts of functions of the given program, and plain laws: parts of the proofs of laws. -/
import Derived.Test.YtacgheafbkfciaaDoorZMK4
import Derived.Test.YtacgheafbkfciaaDoorZMK7
import Derived.Test.YtacgheafbkfciaaDoorZMK3
import Derived.Test.YtacgheafbkfciaaDoorZMK6
/- Contracts of functions of the given program, and plain laws on what they compute: parts of the proofs of laws. -/

namespace Go.GL
open Go
theorem WL.openMap {G : Ctx} {N : Nat} {ops : Array Oper} {rest : List Oper} {env : Env} {L M : List Assn} {k : Kont} {r : Nat} {m : Int → Option Value} (i : Imp L (mapA r m :: M)) (h : ∀ es clock, MapEs m es clock → WL G N ops rest env (objA r (.map es clock) :: M) k) : WL G N ops rest env L k := .mk fun a w ha hs => by
  obtain ⟨h1, h2, dj, e', ⟨es, clock, he, hb⟩, rest⟩ := i.sat hs
  exact (h es clock he) a w ha ⟨h1, h2, dj, e', hb, rest⟩
theorem Imp.closeMap {L M : List Assn} {r : Nat} {m : Int → Option Value} {es : Array MapEntry} {clock : Nat} (he : MapEs m es clock) (i : Imp L (objA r (.map es clock) :: M)) : Imp L (mapA r m :: M) := fun h s => stars_head_mono (fun _ hk => ⟨es, clock, he, hk⟩) (i h s)
end Go.GL
namespace Go.Proofs.YtacgheafbkfciaaDoor
open Go Go.GL

def forgetS (S : Int → Int → Bool) (v upto : Int) : Int → Int → Bool := fun a => if a = v then (fun m => S v m && decide (upto < m)) else S a
theorem forgetS_at (S : Int → Int → Bool) (v u : Int) : forgetS S v u v = fun m => S v m && decide (u < m) := if_pos rfl
theorem forgetS_ne {S : Int → Int → Bool} {v u a : Int} (h : a ≠ v) : forgetS S v u a = S a := if_neg h
theorem forgetS_no {S : Int → Int → Bool} {v u : Int} (h : ∀ m, S v m = false) (a : Int) : forgetS S v u a = S a := by
  unfold forgetS
  split
  · rename_i e; subst e; funext m; rw [h m]; rfl
  · rfl
theorem setM_del (f : Int → Bool) (k : Int) : delM (setM f) k = setM (fun b => if b = k then false else f b) := by
  funext x
  unfold delM setM
  by_cases h : x = k
  · simp [h]
  · simp [h]
theorem length_le_nat : ∀ {a b : List Nat}, a.Nodup → (∀ x ∈ a, x ∈ b) → a.length ≤ b.length
  | [], _, _, _ => Nat.zero_le _
  | x :: a, b, hn, hs => by
    have hx := hs x List.mem_cons_self
    have hn' := List.nodup_cons.1 hn
    have h := length_le_nat (a := a) (b := b.erase x) hn'.2 (fun y hy => by
      have hne : y ≠ x := fun e => hn'.1 (e ▸ hy)
      exact (List.mem_erase_of_ne hne).2 (hs y (List.mem_cons_of_mem _ hy)))
    rw [List.length_erase_of_mem hx] at h
    have : 0 < b.length := List.length_pos_of_mem hx
    simp only [List.length_cons]
    omega
theorem leftN_le {es es' : Array MapEntry} {seen : Array Nat} (hn : (es'.toList.map (·.born)).Nodup) (hs : ∀ x ∈ es'.toList, x ∈ es.toList) : leftN es' seen ≤ leftN es seen := by
  unfold leftN
  have h := length_le_nat (a := (es'.toList.filter (fun e => !seen.contains e.born)).map (·.born)) (b := (es.toList.filter (fun e => !seen.contains e.born)).map (·.born))
    (List.pairwise_map.2 ((List.pairwise_map.1 hn).filter _)) (fun x hx => by
      obtain ⟨y, hy, rfl⟩ := List.mem_map.1 hx
      rw [List.mem_filter] at hy
      exact List.mem_map.2 ⟨y, List.mem_filter.2 ⟨hs y hy.1, hy.2⟩, rfl⟩)
  simpa using h
structure FgI (S : Int → Bool) (u : Int) (f : Int → Bool) (es : Array MapEntry) (clock : Nat) (seen : Array Nat) : Prop where
  m : MapEs (setM f) es clock
  sub : ∀ k, f k = true → S k = true
  out : ∀ k, S k = true → f k = false → k ≤ u
  big : ∀ e ∈ es.toList, seen.contains e.born = true → ∀ k, e.key = .int .i64 k → u < k
theorem FgI.done {S : Int → Bool} {u : Int} {f : Int → Bool} {es : Array MapEntry} {clock : Nat} {seen : Array Nat} (I : FgI S u f es clock seen) (h : ∀ e ∈ es.toList, seen.contains e.born = true) : f = fun m => S m && decide (u < m) := by
  funext k
  cases hf : f k with
  | true =>
    obtain ⟨e, he, hk, _⟩ := (I.m.says k (.bool true)).1 (by unfold setM; rw [if_pos hf])
    have h1 := I.big e he (h e he) k hk
    rw [I.sub k hf]
    simp [h1]
  | false =>
    cases hs : S k with
    | false => rfl
    | true =>
      have := I.out k hs hf
      simp; omega
theorem born_inj {es : Array MapEntry} {clock : Nat} (h : Go.MapKept.Stamped es clock) {x y : MapEntry} (hx : x ∈ es.toList) (hy : y ∈ es.toList) (e : x.born = y.born) : x = y := by
  obtain ⟨i, hi, rfl⟩ := List.getElem_of_mem hx
  obtain ⟨j, hj, rfl⟩ := List.getElem_of_mem hy
  have hij := (List.getElem_inj (i := i) (j := j) (h₀ := by simpa using hi) (h₁ := by simpa using hj) h.2.1).1 (by simpa using e)
  subst hij; rfl
theorem FgI.keep {S : Int → Bool} {u : Int} {f : Int → Bool} {es : Array MapEntry} {clock : Nat} {seen : Array Nat} (I : FgI S u f es clock seen) {e : MapEntry} {k : Int} (he : e ∈ es.toList) (hk : e.key = .int .i64 k) (hb : u < k) : FgI S u f es clock (seen.push e.born) :=
  { I with
    big := fun e' he' hs k' hk' => by
      rcases seen_push hs with h | h
      · rw [born_inj I.m.st he' he h, hk] at hk'
        simp only [Value.int.injEq, true_and] at hk'
        omega
      · exact I.big e' he' h k' hk' }
theorem FgI.del {S : Int → Bool} {u : Int} {f : Int → Bool} {es es' : Array MapEntry} {clock : Nat} {seen : Array Nat} (I : FgI S u f es clock seen) {e : MapEntry} {k : Int} (he : e ∈ es.toList) (hk : e.key = .int .i64 k) (hb : k ≤ u) (hm : MapEs (delM (setM f) k) es' clock) (hs : ∀ x ∈ es'.toList, x ∈ es.toList) : FgI S u (fun b => if b = k then false else f b) es' clock (seen.push e.born) := by
  refine ⟨setM_del f k ▸ hm, fun a h => ?_, fun a h1 h2 => ?_, fun e' he' hs' k' hk' => ?_⟩
  · split at h
    · cases h
    · exact I.sub a h
  · split at h2
    · omega
    · exact I.out a h1 h2
  · rcases seen_push hs' with h | h
    · have h3 := born_inj I.m.st (hs e' he') he h
      subst h3
      have h4 := (hm.says k' e'.val).2 ⟨e', he', hk', rfl⟩
      rw [hk] at hk'
      simp only [Value.int.injEq, true_and] at hk'
      unfold delM at h4
      rw [if_pos hk'.symm] at h4
      cases h4
    · exact I.big e' (hs e' he') h k' hk'
set_option maxHeartbeats 16000000 in
set_option maxRecDepth 10000 in
theorem mforget_ok (p : Nat) (S : Int → Int → Bool) (v u : Int) :
    Triple G 6 [.pointer (some ⟨p, 0, none⟩), .int .i64 v, .int .i64 u] [mtab p S] (fun w M => w = .tuple #[] ∧ M = [mtab p (forgetS S v u)]) := by
  refine Triple.enter Tryd.func6 rfl (by decide) rfl Tryd.ntmps6 rfl (fun F => ?_)
  refine WC.open (M := [F]) (Ls := tabL p S) II (fun x => ?_)
  unfold tabL
  dsimp only [List.cons_append, List.nil_append]
  obtain ⟨mo, a, b, c, d⟩ := x
  dsimp only
  have hi : ∀ (f : Int → Bool) (r : Nat), innO f (some r) = mapA r (setM f) := fun _ _ => rfl
  repeat (first | refine GD ?_ | refine NW fun _ => ?_)
  by_cases hv : 0 ≤ v ∧ v < 4
  rotate_left
  · have hr : refAt (mo, a, b, c, d) v = none := by
      unfold refAt
      rw [if_neg (by omega), if_neg (by omega), if_neg (by omega), if_neg (by omega)]
    refine WL.step rfl (OP.callRO rfl rfl (tof_ro p (mo, a, b, c, d) v) (Ent.and (Ent.whole (T := 39) MM) (Ent.mem (A := outA mo (outM (mo, a, b, c, d))) MM (up_outA _ _) (fun _ a => a))) rfl rfl ?_)
    rw [show refAt (mo, a, b, c, d) v = none from hr]
    refine WL.step rfl (OP.rangeNil rfl rfl rfl rfl rfl rfl (fun it => ?_))
    repeat (first | refine GD ?_ | refine NW fun _ => ?_)
    refine WC.loop (σ := Unit) (fun _ => True)
      (fun _ => [(10, .val (.pointer (some ⟨it, 0, none⟩)))])
      (fun _ => [objA it (.mapIter none 0 #[] 0), blk p [.map mo] 39, outA mo (outM (mo, a, b, c, d)), innO (S 0) a, innO (S 1) b, innO (S 2) c, innO (S 3) d, F]) (fun _ => 0) () trivial ⟨rfl, trivial⟩ II ?_
    rintro ⟨⟩ _
    repeat (first | refine GD ?_ | refine NW fun _ => ?_)
    refine WL.step rfl (OP.nextNil rfl rfl (Ent.mem (A := objA it (.mapIter none 0 #[] 0)) MM (up_objA _ _) (fun _ a => a)) rfl rfl ?_)
    repeat (first | refine GD ?_ | refine NW fun _ => ?_)
    refine blockK.hit rfl (ret0n ⟨[mtab p (forgetS S v u)], ⟨rfl, rfl⟩, ?_⟩)
    exact Imp.trans II (mtabFold p (forgetS S v u) (mo, a, b, c, d) (forgetS_ne (by omega)) (forgetS_ne (by omega)) (forgetS_ne (by omega)) (forgetS_ne (by omega)))
  have hv : v = 0 ∨ v = 1 ∨ v = 2 ∨ v = 3 := by omega
  rcases hv with rfl | rfl | rfl | rfl
  · cases a with
    | none =>
      refine WL.fact (Ent.mem (A := innO (S 0) none) MM (up_innO _ _) (fun _ x => x)) (fun hfl => ?_)
      repeat (first | refine GD ?_ | refine NW fun _ => ?_)
      refine WL.step rfl (OP.callRO rfl rfl (tof_ro p (mo, none, b, c, d) 0) (Ent.and (Ent.whole (T := 39) MM) (Ent.mem (A := outA mo (outM (mo, none, b, c, d))) MM (up_outA _ _) (fun _ a => a))) rfl rfl ?_)
      rw [show refAt (mo, none, b, c, d) 0 = none from rfl]
      refine WL.step rfl (OP.rangeNil rfl rfl rfl rfl rfl rfl (fun it => ?_))
      repeat (first | refine GD ?_ | refine NW fun _ => ?_)
      refine WC.loop (σ := Unit) (fun _ => True)
        (fun _ => [(10, .val (.pointer (some ⟨it, 0, none⟩)))])
        (fun _ => [objA it (.mapIter none 0 #[] 0), blk p [.map mo] 39, outA mo (outM (mo, none, b, c, d)), innO (S 0) none, innO (S 1) b, innO (S 2) c, innO (S 3) d, F]) (fun _ => 0) () trivial ⟨rfl, trivial⟩ II ?_
      rintro ⟨⟩ _
      repeat (first | refine GD ?_ | refine NW fun _ => ?_)
      refine WL.step rfl (OP.nextNil rfl rfl (Ent.mem (A := objA it (.mapIter none 0 #[] 0)) MM (up_objA _ _) (fun _ a => a)) rfl rfl ?_)
      repeat (first | refine GD ?_ | refine NW fun _ => ?_)
      refine blockK.hit rfl (ret0n ⟨[mtab p (forgetS S 0 u)], ⟨rfl, rfl⟩, ?_⟩)
      exact Imp.trans II (mtabFold p (forgetS S 0 u) (mo, none, b, c, d) (forgetS_no hfl 0) (forgetS_no hfl 1) (forgetS_no hfl 2) (forgetS_no hfl 3))
    | some r =>
      rw [hi]
      repeat (first | refine GD ?_ | refine NW fun _ => ?_)
      refine WL.step rfl (OP.callRO rfl rfl (tof_ro p (mo, some r, b, c, d) 0) (Ent.and (Ent.whole (T := 39) MM) (Ent.mem (A := outA mo (outM (mo, some r, b, c, d))) MM (up_outA _ _) (fun _ a => a))) rfl rfl ?_)
      rw [show refAt (mo, some r, b, c, d) 0 = (some r) from rfl]
      refine WL.openMap (r := r) (m := setM (S 0)) P1 (fun es0 clock he0 => ?_)
      refine WL.step rfl (OP.rangeMap rfl rfl rfl rfl (Ent.mem (A := objA r (.map es0 clock)) MM (up_objA _ _) (fun _ a => a)) rfl rfl (fun it => ?_))
      repeat (first | refine GD ?_ | refine NW fun _ => ?_)
      refine WC.loop (σ := (Int → Bool) × Array MapEntry × Array Nat) (fun s => FgI (S 0) u s.1 s.2.1 clock s.2.2)
        (fun _ => [(0, .val (.pointer (some ⟨p, 0, none⟩))), (1, .val (.int .i64 0)), (2, .val (.int .i64 u)), (10, .val (.pointer (some ⟨it, 0, none⟩)))])
        (fun s => [objA it (.mapIter (some r) clock s.2.2 clock), objA r (.map s.2.1 clock), blk p [.map mo] 39, outA mo (outM (mo, some r, b, c, d)), innO (S 1) b, innO (S 2) c, innO (S 3) d, F]) (fun s => leftN s.2.1 s.2.2) (S 0, es0, #[]) ⟨he0, fun _ h => h, fun k h1 h2 => (by dsimp only at h2; rw [h1] at h2; cases h2), fun e _ h => by simp at h⟩ ⟨rfl, rfl, rfl, rfl, trivial⟩ II ?_
      rintro ⟨f, es, seen⟩ I
      dsimp only at I ⊢
      repeat (first | refine GD ?_ | refine NW fun _ => ?_)
      refine WL.step rfl (OP.nextMap (M := [objA r (.map es clock), blk p [.map mo] 39, outA mo (outM (mo, some r, b, c, d)), innO (S 1) b, innO (S 2) c, innO (S 3) d, F]) rfl rfl (Imp.refl _) (Ent.mem (A := objA r (.map es clock)) MM (up_objA _ _) (fun _ a => a)) (fun x hx => I.m.st.1 x hx) (Nat.le_refl _) rfl rfl (fun hdone => ?_) (fun e he hse => ?_))
      · have hf := I.done hdone
        have hcl := I.m
        rw [hf] at hcl
        repeat (first | refine GD ?_ | refine NW fun _ => ?_)
        refine blockK.hit rfl (ret0n ⟨[mtab p (forgetS S 0 u)], ⟨rfl, rfl⟩, ?_⟩)
        exact Imp.trans (Imp.closeMap hcl P1) (Imp.trans II (mtabFold p (forgetS S 0 u) (mo, some r, b, c, d) (forgetS_at S 0 u) (forgetS_ne (by decide)) (forgetS_ne (by decide)) (forgetS_ne (by decide))))
      · obtain ⟨k, hk⟩ : ∃ k : Int, e.key = .int .i64 k := by
          have h1 := I.m.keys e he
          cases hxk : e.key <;> rw [hxk] at h1 <;> simp [Go.MapKept.IsKey] at h1
          subst h1
          exact ⟨_, rfl⟩
        have hlt2 := leftN_lt he hse
        repeat (first | refine GD ?_ | refine NW fun _ => ?_)
        refine WL.step rfl (OP.entry rfl rfl (Ent.mem (A := objA it (.mapIter (some r) clock (seen.push e.born) clock)) MM (up_objA _ _) (fun _ a => a)) (Ent.mem (A := objA r (.map es clock)) MM (up_objA _ _) (fun _ a => a)) he I.m.st rfl rfl ?_)
        rw [hk]
        by_cases hku : k ≤ u
        rotate_left
        · repeat (first | refine GD ?_ | refine NW fun _ => ?_)
          exact ⟨(f, es, seen.push e.born), I.keep he hk (by omega), hlt2, ⟨rfl, rfl, rfl, rfl, trivial⟩, II⟩
        repeat (first | refine GD ?_ | refine NW fun _ => ?_)
        refine WL.step rfl (OP.callRO rfl rfl (tof_ro p (mo, some r, b, c, d) 0) (Ent.and (Ent.whole (T := 39) MM) (Ent.mem (A := outA mo (outM (mo, some r, b, c, d))) MM (up_outA _ _) (fun _ a => a))) rfl rfl ?_)
        rw [show refAt (mo, some r, b, c, d) 0 = (some r) from rfl]
        repeat (first | refine GD ?_ | refine NW fun _ => ?_)
        refine WL.step rfl (OP.delete rfl rfl rfl rfl rfl rfl rfl (show Imp _ (objA r (.map es clock) :: _) from P1) I.m rfl (fun es' hm' hsub => ?_))
        repeat (first | refine GD ?_ | refine NW fun _ => ?_)
        exact ⟨(_, es', seen.push e.born), I.del he hk hku hm' hsub, Nat.lt_of_le_of_lt (leftN_le hm'.st.2.1 hsub) hlt2, ⟨rfl, rfl, rfl, rfl, trivial⟩, II⟩
  · cases b with
    | none =>
      refine WL.fact (Ent.mem (A := innO (S 1) none) MM (up_innO _ _) (fun _ x => x)) (fun hfl => ?_)
      repeat (first | refine GD ?_ | refine NW fun _ => ?_)
      refine WL.step rfl (OP.callRO rfl rfl (tof_ro p (mo, a, none, c, d) 1) (Ent.and (Ent.whole (T := 39) MM) (Ent.mem (A := outA mo (outM (mo, a, none, c, d))) MM (up_outA _ _) (fun _ a => a))) rfl rfl ?_)
      rw [show refAt (mo, a, none, c, d) 1 = none from rfl]
      refine WL.step rfl (OP.rangeNil rfl rfl rfl rfl rfl rfl (fun it => ?_))
      repeat (first | refine GD ?_ | refine NW fun _ => ?_)
      refine WC.loop (σ := Unit) (fun _ => True)
        (fun _ => [(10, .val (.pointer (some ⟨it, 0, none⟩)))])
        (fun _ => [objA it (.mapIter none 0 #[] 0), blk p [.map mo] 39, outA mo (outM (mo, a, none, c, d)), innO (S 0) a, innO (S 1) none, innO (S 2) c, innO (S 3) d, F]) (fun _ => 0) () trivial ⟨rfl, trivial⟩ II ?_
      rintro ⟨⟩ _
      repeat (first | refine GD ?_ | refine NW fun _ => ?_)
      refine WL.step rfl (OP.nextNil rfl rfl (Ent.mem (A := objA it (.mapIter none 0 #[] 0)) MM (up_objA _ _) (fun _ a => a)) rfl rfl ?_)
      repeat (first | refine GD ?_ | refine NW fun _ => ?_)
      refine blockK.hit rfl (ret0n ⟨[mtab p (forgetS S 1 u)], ⟨rfl, rfl⟩, ?_⟩)
      exact Imp.trans II (mtabFold p (forgetS S 1 u) (mo, a, none, c, d) (forgetS_no hfl 0) (forgetS_no hfl 1) (forgetS_no hfl 2) (forgetS_no hfl 3))
    | some r =>
      rw [hi]
      repeat (first | refine GD ?_ | refine NW fun _ => ?_)
      refine WL.step rfl (OP.callRO rfl rfl (tof_ro p (mo, a, some r, c, d) 1) (Ent.and (Ent.whole (T := 39) MM) (Ent.mem (A := outA mo (outM (mo, a, some r, c, d))) MM (up_outA _ _) (fun _ a => a))) rfl rfl ?_)
      rw [show refAt (mo, a, some r, c, d) 1 = (some r) from rfl]
      refine WL.openMap (r := r) (m := setM (S 1)) P1 (fun es0 clock he0 => ?_)
      refine WL.step rfl (OP.rangeMap rfl rfl rfl rfl (Ent.mem (A := objA r (.map es0 clock)) MM (up_objA _ _) (fun _ a => a)) rfl rfl (fun it => ?_))
      repeat (first | refine GD ?_ | refine NW fun _ => ?_)
      refine WC.loop (σ := (Int → Bool) × Array MapEntry × Array Nat) (fun s => FgI (S 1) u s.1 s.2.1 clock s.2.2)
        (fun _ => [(0, .val (.pointer (some ⟨p, 0, none⟩))), (1, .val (.int .i64 1)), (2, .val (.int .i64 u)), (10, .val (.pointer (some ⟨it, 0, none⟩)))])
        (fun s => [objA it (.mapIter (some r) clock s.2.2 clock), objA r (.map s.2.1 clock), blk p [.map mo] 39, outA mo (outM (mo, a, some r, c, d)), innO (S 0) a, innO (S 2) c, innO (S 3) d, F]) (fun s => leftN s.2.1 s.2.2) (S 1, es0, #[]) ⟨he0, fun _ h => h, fun k h1 h2 => (by dsimp only at h2; rw [h1] at h2; cases h2), fun e _ h => by simp at h⟩ ⟨rfl, rfl, rfl, rfl, trivial⟩ II ?_
      rintro ⟨f, es, seen⟩ I
      dsimp only at I ⊢
      repeat (first | refine GD ?_ | refine NW fun _ => ?_)
      refine WL.step rfl (OP.nextMap (M := [objA r (.map es clock), blk p [.map mo] 39, outA mo (outM (mo, a, some r, c, d)), innO (S 0) a, innO (S 2) c, innO (S 3) d, F]) rfl rfl (Imp.refl _) (Ent.mem (A := objA r (.map es clock)) MM (up_objA _ _) (fun _ a => a)) (fun x hx => I.m.st.1 x hx) (Nat.le_refl _) rfl rfl (fun hdone => ?_) (fun e he hse => ?_))
      · have hf := I.done hdone
        have hcl := I.m
        rw [hf] at hcl
        repeat (first | refine GD ?_ | refine NW fun _ => ?_)
        refine blockK.hit rfl (ret0n ⟨[mtab p (forgetS S 1 u)], ⟨rfl, rfl⟩, ?_⟩)
        exact Imp.trans (Imp.closeMap hcl P1) (Imp.trans II (mtabFold p (forgetS S 1 u) (mo, a, some r, c, d) (forgetS_ne (by decide)) (forgetS_at S 1 u) (forgetS_ne (by decide)) (forgetS_ne (by decide))))
      · obtain ⟨k, hk⟩ : ∃ k : Int, e.key = .int .i64 k := by
          have h1 := I.m.keys e he
          cases hxk : e.key <;> rw [hxk] at h1 <;> simp [Go.MapKept.IsKey] at h1
          subst h1
          exact ⟨_, rfl⟩
        have hlt2 := leftN_lt he hse
        repeat (first | refine GD ?_ | refine NW fun _ => ?_)
        refine WL.step rfl (OP.entry rfl rfl (Ent.mem (A := objA it (.mapIter (some r) clock (seen.push e.born) clock)) MM (up_objA _ _) (fun _ a => a)) (Ent.mem (A := objA r (.map es clock)) MM (up_objA _ _) (fun _ a => a)) he I.m.st rfl rfl ?_)
        rw [hk]
        by_cases hku : k ≤ u
        rotate_left
        · repeat (first | refine GD ?_ | refine NW fun _ => ?_)
          exact ⟨(f, es, seen.push e.born), I.keep he hk (by omega), hlt2, ⟨rfl, rfl, rfl, rfl, trivial⟩, II⟩
        repeat (first | refine GD ?_ | refine NW fun _ => ?_)
        refine WL.step rfl (OP.callRO rfl rfl (tof_ro p (mo, a, some r, c, d) 1) (Ent.and (Ent.whole (T := 39) MM) (Ent.mem (A := outA mo (outM (mo, a, some r, c, d))) MM (up_outA _ _) (fun _ a => a))) rfl rfl ?_)
        rw [show refAt (mo, a, some r, c, d) 1 = (some r) from rfl]
        repeat (first | refine GD ?_ | refine NW fun _ => ?_)
        refine WL.step rfl (OP.delete rfl rfl rfl rfl rfl rfl rfl (show Imp _ (objA r (.map es clock) :: _) from P1) I.m rfl (fun es' hm' hsub => ?_))
        repeat (first | refine GD ?_ | refine NW fun _ => ?_)
        exact ⟨(_, es', seen.push e.born), I.del he hk hku hm' hsub, Nat.lt_of_le_of_lt (leftN_le hm'.st.2.1 hsub) hlt2, ⟨rfl, rfl, rfl, rfl, trivial⟩, II⟩
  · cases c with
    | none =>
      refine WL.fact (Ent.mem (A := innO (S 2) none) MM (up_innO _ _) (fun _ x => x)) (fun hfl => ?_)
      repeat (first | refine GD ?_ | refine NW fun _ => ?_)
      refine WL.step rfl (OP.callRO rfl rfl (tof_ro p (mo, a, b, none, d) 2) (Ent.and (Ent.whole (T := 39) MM) (Ent.mem (A := outA mo (outM (mo, a, b, none, d))) MM (up_outA _ _) (fun _ a => a))) rfl rfl ?_)
      rw [show refAt (mo, a, b, none, d) 2 = none from rfl]
      refine WL.step rfl (OP.rangeNil rfl rfl rfl rfl rfl rfl (fun it => ?_))
      repeat (first | refine GD ?_ | refine NW fun _ => ?_)
      refine WC.loop (σ := Unit) (fun _ => True)
        (fun _ => [(10, .val (.pointer (some ⟨it, 0, none⟩)))])
        (fun _ => [objA it (.mapIter none 0 #[] 0), blk p [.map mo] 39, outA mo (outM (mo, a, b, none, d)), innO (S 0) a, innO (S 1) b, innO (S 2) none, innO (S 3) d, F]) (fun _ => 0) () trivial ⟨rfl, trivial⟩ II ?_
      rintro ⟨⟩ _
      repeat (first | refine GD ?_ | refine NW fun _ => ?_)
      refine WL.step rfl (OP.nextNil rfl rfl (Ent.mem (A := objA it (.mapIter none 0 #[] 0)) MM (up_objA _ _) (fun _ a => a)) rfl rfl ?_)
      repeat (first | refine GD ?_ | refine NW fun _ => ?_)
      refine blockK.hit rfl (ret0n ⟨[mtab p (forgetS S 2 u)], ⟨rfl, rfl⟩, ?_⟩)
      exact Imp.trans II (mtabFold p (forgetS S 2 u) (mo, a, b, none, d) (forgetS_no hfl 0) (forgetS_no hfl 1) (forgetS_no hfl 2) (forgetS_no hfl 3))
    | some r =>
      rw [hi]
      repeat (first | refine GD ?_ | refine NW fun _ => ?_)
      refine WL.step rfl (OP.callRO rfl rfl (tof_ro p (mo, a, b, some r, d) 2) (Ent.and (Ent.whole (T := 39) MM) (Ent.mem (A := outA mo (outM (mo, a, b, some r, d))) MM (up_outA _ _) (fun _ a => a))) rfl rfl ?_)
      rw [show refAt (mo, a, b, some r, d) 2 = (some r) from rfl]
      refine WL.openMap (r := r) (m := setM (S 2)) P1 (fun es0 clock he0 => ?_)
      refine WL.step rfl (OP.rangeMap rfl rfl rfl rfl (Ent.mem (A := objA r (.map es0 clock)) MM (up_objA _ _) (fun _ a => a)) rfl rfl (fun it => ?_))
      repeat (first | refine GD ?_ | refine NW fun _ => ?_)
      refine WC.loop (σ := (Int → Bool) × Array MapEntry × Array Nat) (fun s => FgI (S 2) u s.1 s.2.1 clock s.2.2)
        (fun _ => [(0, .val (.pointer (some ⟨p, 0, none⟩))), (1, .val (.int .i64 2)), (2, .val (.int .i64 u)), (10, .val (.pointer (some ⟨it, 0, none⟩)))])
        (fun s => [objA it (.mapIter (some r) clock s.2.2 clock), objA r (.map s.2.1 clock), blk p [.map mo] 39, outA mo (outM (mo, a, b, some r, d)), innO (S 0) a, innO (S 1) b, innO (S 3) d, F]) (fun s => leftN s.2.1 s.2.2) (S 2, es0, #[]) ⟨he0, fun _ h => h, fun k h1 h2 => (by dsimp only at h2; rw [h1] at h2; cases h2), fun e _ h => by simp at h⟩ ⟨rfl, rfl, rfl, rfl, trivial⟩ II ?_
      rintro ⟨f, es, seen⟩ I
      dsimp only at I ⊢
      repeat (first | refine GD ?_ | refine NW fun _ => ?_)
      refine WL.step rfl (OP.nextMap (M := [objA r (.map es clock), blk p [.map mo] 39, outA mo (outM (mo, a, b, some r, d)), innO (S 0) a, innO (S 1) b, innO (S 3) d, F]) rfl rfl (Imp.refl _) (Ent.mem (A := objA r (.map es clock)) MM (up_objA _ _) (fun _ a => a)) (fun x hx => I.m.st.1 x hx) (Nat.le_refl _) rfl rfl (fun hdone => ?_) (fun e he hse => ?_))
      · have hf := I.done hdone
        have hcl := I.m
        rw [hf] at hcl
        repeat (first | refine GD ?_ | refine NW fun _ => ?_)
        refine blockK.hit rfl (ret0n ⟨[mtab p (forgetS S 2 u)], ⟨rfl, rfl⟩, ?_⟩)
        exact Imp.trans (Imp.closeMap hcl P1) (Imp.trans II (mtabFold p (forgetS S 2 u) (mo, a, b, some r, d) (forgetS_ne (by decide)) (forgetS_ne (by decide)) (forgetS_at S 2 u) (forgetS_ne (by decide))))
      · obtain ⟨k, hk⟩ : ∃ k : Int, e.key = .int .i64 k := by
          have h1 := I.m.keys e he
          cases hxk : e.key <;> rw [hxk] at h1 <;> simp [Go.MapKept.IsKey] at h1
          subst h1
          exact ⟨_, rfl⟩
        have hlt2 := leftN_lt he hse
        repeat (first | refine GD ?_ | refine NW fun _ => ?_)
        refine WL.step rfl (OP.entry rfl rfl (Ent.mem (A := objA it (.mapIter (some r) clock (seen.push e.born) clock)) MM (up_objA _ _) (fun _ a => a)) (Ent.mem (A := objA r (.map es clock)) MM (up_objA _ _) (fun _ a => a)) he I.m.st rfl rfl ?_)
        rw [hk]
        by_cases hku : k ≤ u
        rotate_left
        · repeat (first | refine GD ?_ | refine NW fun _ => ?_)
          exact ⟨(f, es, seen.push e.born), I.keep he hk (by omega), hlt2, ⟨rfl, rfl, rfl, rfl, trivial⟩, II⟩
        repeat (first | refine GD ?_ | refine NW fun _ => ?_)
        refine WL.step rfl (OP.callRO rfl rfl (tof_ro p (mo, a, b, some r, d) 2) (Ent.and (Ent.whole (T := 39) MM) (Ent.mem (A := outA mo (outM (mo, a, b, some r, d))) MM (up_outA _ _) (fun _ a => a))) rfl rfl ?_)
        rw [show refAt (mo, a, b, some r, d) 2 = (some r) from rfl]
        repeat (first | refine GD ?_ | refine NW fun _ => ?_)
        refine WL.step rfl (OP.delete rfl rfl rfl rfl rfl rfl rfl (show Imp _ (objA r (.map es clock) :: _) from P1) I.m rfl (fun es' hm' hsub => ?_))
        repeat (first | refine GD ?_ | refine NW fun _ => ?_)
        exact ⟨(_, es', seen.push e.born), I.del he hk hku hm' hsub, Nat.lt_of_le_of_lt (leftN_le hm'.st.2.1 hsub) hlt2, ⟨rfl, rfl, rfl, rfl, trivial⟩, II⟩
  · cases d with
    | none =>
      refine WL.fact (Ent.mem (A := innO (S 3) none) MM (up_innO _ _) (fun _ x => x)) (fun hfl => ?_)
      repeat (first | refine GD ?_ | refine NW fun _ => ?_)
      refine WL.step rfl (OP.callRO rfl rfl (tof_ro p (mo, a, b, c, none) 3) (Ent.and (Ent.whole (T := 39) MM) (Ent.mem (A := outA mo (outM (mo, a, b, c, none))) MM (up_outA _ _) (fun _ a => a))) rfl rfl ?_)
      rw [show refAt (mo, a, b, c, none) 3 = none from rfl]
      refine WL.step rfl (OP.rangeNil rfl rfl rfl rfl rfl rfl (fun it => ?_))
      repeat (first | refine GD ?_ | refine NW fun _ => ?_)
      refine WC.loop (σ := Unit) (fun _ => True)
        (fun _ => [(10, .val (.pointer (some ⟨it, 0, none⟩)))])
        (fun _ => [objA it (.mapIter none 0 #[] 0), blk p [.map mo] 39, outA mo (outM (mo, a, b, c, none)), innO (S 0) a, innO (S 1) b, innO (S 2) c, innO (S 3) none, F]) (fun _ => 0) () trivial ⟨rfl, trivial⟩ II ?_
      rintro ⟨⟩ _
      repeat (first | refine GD ?_ | refine NW fun _ => ?_)
      refine WL.step rfl (OP.nextNil rfl rfl (Ent.mem (A := objA it (.mapIter none 0 #[] 0)) MM (up_objA _ _) (fun _ a => a)) rfl rfl ?_)
      repeat (first | refine GD ?_ | refine NW fun _ => ?_)
      refine blockK.hit rfl (ret0n ⟨[mtab p (forgetS S 3 u)], ⟨rfl, rfl⟩, ?_⟩)
      exact Imp.trans II (mtabFold p (forgetS S 3 u) (mo, a, b, c, none) (forgetS_no hfl 0) (forgetS_no hfl 1) (forgetS_no hfl 2) (forgetS_no hfl 3))
    | some r =>
      rw [hi]
      repeat (first | refine GD ?_ | refine NW fun _ => ?_)
      refine WL.step rfl (OP.callRO rfl rfl (tof_ro p (mo, a, b, c, some r) 3) (Ent.and (Ent.whole (T := 39) MM) (Ent.mem (A := outA mo (outM (mo, a, b, c, some r))) MM (up_outA _ _) (fun _ a => a))) rfl rfl ?_)
      rw [show refAt (mo, a, b, c, some r) 3 = (some r) from rfl]
      refine WL.openMap (r := r) (m := setM (S 3)) P1 (fun es0 clock he0 => ?_)
      refine WL.step rfl (OP.rangeMap rfl rfl rfl rfl (Ent.mem (A := objA r (.map es0 clock)) MM (up_objA _ _) (fun _ a => a)) rfl rfl (fun it => ?_))
      repeat (first | refine GD ?_ | refine NW fun _ => ?_)
      refine WC.loop (σ := (Int → Bool) × Array MapEntry × Array Nat) (fun s => FgI (S 3) u s.1 s.2.1 clock s.2.2)
        (fun _ => [(0, .val (.pointer (some ⟨p, 0, none⟩))), (1, .val (.int .i64 3)), (2, .val (.int .i64 u)), (10, .val (.pointer (some ⟨it, 0, none⟩)))])
        (fun s => [objA it (.mapIter (some r) clock s.2.2 clock), objA r (.map s.2.1 clock), blk p [.map mo] 39, outA mo (outM (mo, a, b, c, some r)), innO (S 0) a, innO (S 1) b, innO (S 2) c, F]) (fun s => leftN s.2.1 s.2.2) (S 3, es0, #[]) ⟨he0, fun _ h => h, fun k h1 h2 => (by dsimp only at h2; rw [h1] at h2; cases h2), fun e _ h => by simp at h⟩ ⟨rfl, rfl, rfl, rfl, trivial⟩ II ?_
      rintro ⟨f, es, seen⟩ I
      dsimp only at I ⊢
      repeat (first | refine GD ?_ | refine NW fun _ => ?_)
      refine WL.step rfl (OP.nextMap (M := [objA r (.map es clock), blk p [.map mo] 39, outA mo (outM (mo, a, b, c, some r)), innO (S 0) a, innO (S 1) b, innO (S 2) c, F]) rfl rfl (Imp.refl _) (Ent.mem (A := objA r (.map es clock)) MM (up_objA _ _) (fun _ a => a)) (fun x hx => I.m.st.1 x hx) (Nat.le_refl _) rfl rfl (fun hdone => ?_) (fun e he hse => ?_))
      · have hf := I.done hdone
        have hcl := I.m
        rw [hf] at hcl
        repeat (first | refine GD ?_ | refine NW fun _ => ?_)
        refine blockK.hit rfl (ret0n ⟨[mtab p (forgetS S 3 u)], ⟨rfl, rfl⟩, ?_⟩)
        exact Imp.trans (Imp.closeMap hcl P1) (Imp.trans II (mtabFold p (forgetS S 3 u) (mo, a, b, c, some r) (forgetS_ne (by decide)) (forgetS_ne (by decide)) (forgetS_ne (by decide)) (forgetS_at S 3 u)))
      · obtain ⟨k, hk⟩ : ∃ k : Int, e.key = .int .i64 k := by
          have h1 := I.m.keys e he
          cases hxk : e.key <;> rw [hxk] at h1 <;> simp [Go.MapKept.IsKey] at h1
          subst h1
          exact ⟨_, rfl⟩
        have hlt2 := leftN_lt he hse
        repeat (first | refine GD ?_ | refine NW fun _ => ?_)
        refine WL.step rfl (OP.entry rfl rfl (Ent.mem (A := objA it (.mapIter (some r) clock (seen.push e.born) clock)) MM (up_objA _ _) (fun _ a => a)) (Ent.mem (A := objA r (.map es clock)) MM (up_objA _ _) (fun _ a => a)) he I.m.st rfl rfl ?_)
        rw [hk]
        by_cases hku : k ≤ u
        rotate_left
        · repeat (first | refine GD ?_ | refine NW fun _ => ?_)
          exact ⟨(f, es, seen.push e.born), I.keep he hk (by omega), hlt2, ⟨rfl, rfl, rfl, rfl, trivial⟩, II⟩
        repeat (first | refine GD ?_ | refine NW fun _ => ?_)
        refine WL.step rfl (OP.callRO rfl rfl (tof_ro p (mo, a, b, c, some r) 3) (Ent.and (Ent.whole (T := 39) MM) (Ent.mem (A := outA mo (outM (mo, a, b, c, some r))) MM (up_outA _ _) (fun _ a => a))) rfl rfl ?_)
        rw [show refAt (mo, a, b, c, some r) 3 = (some r) from rfl]
        repeat (first | refine GD ?_ | refine NW fun _ => ?_)
        refine WL.step rfl (OP.delete rfl rfl rfl rfl rfl rfl rfl (show Imp _ (objA r (.map es clock) :: _) from P1) I.m rfl (fun es' hm' hsub => ?_))
        repeat (first | refine GD ?_ | refine NW fun _ => ?_)
        exact ⟨(_, es', seen.push e.born), I.del he hk hku hm' hsub, Nat.lt_of_le_of_lt (leftN_le hm'.st.2.1 hsub) hlt2, ⟨rfl, rfl, rfl, rfl, trivial⟩, II⟩
end Go.Proofs.YtacgheafbkfciaaDoor
/- Contracts of functions of the given program, and plain laws on what they compute: parts of the proofs of laws. -/

namespace Go.Proofs.YtacgheafbkfciaaDoor
open Go Go.GL

/-! what the laws of marks are made of -/
abbrev MOp := Int × Int × Int
def encM (o : MOp) : List Value := [.int .i64 o.1, .int .i64 o.2.1, .int .i64 o.2.2]
theorem encM_len (o : MOp) : (encM o).length = 3 := rfl
theorem mop_of {x : List Value} (h : LfsOk [.int .i64, .int .i64, .int .i64] x) : ∃ o : MOp, x = encM o ∧ (Lit.int .i64 o.2.2).wf = true := by
  obtain ⟨k, s, rfl, _, h⟩ := h.int
  obtain ⟨n, s, rfl, _, h⟩ := h.int
  obtain ⟨m, s, rfl, w2, h⟩ := h.int
  rw [h.nil]
  exact ⟨(k, n, m), rfl, w2⟩
def noS : Int → Int → Bool := fun _ _ => false
theorem Imp.pureA {L : List Assn} {p : Prop} (h : p) : Imp L ((fun _ => p) :: L) := fun k s => ⟨Hp.empty, k, fun _ => .inl rfl, by funext b; simp [Hp.join, Hp.empty], h, s⟩
theorem mtabNil (p : Nat) {N : List Assn} : Imp (blk p [.map none] 39 :: N) (mtab p noS :: N) := by
  refine Imp.trans ?_ (mtabFold p noS (none, none, none, none, none) rfl rfl rfl rfl)
  refine Imp.cons ?_
  refine Imp.trans (Imp.pureA (p := ∀ k, outM (none, none, none, none, none) k = none) (fun k => by unfold outM refAt refV; simp)) (Imp.cons ?_)
  exact Imp.trans (Imp.pureA (p := ∀ m, noS 0 m = false) (fun _ => rfl)) (Imp.cons (Imp.trans (Imp.pureA (p := ∀ m, noS 1 m = false) (fun _ => rfl)) (Imp.cons (Imp.trans (Imp.pureA (p := ∀ m, noS 2 m = false) (fun _ => rfl)) (Imp.cons (Imp.pureA (p := ∀ m, noS 3 m = false) (fun _ => rfl)))))))
def stepS (S : Int → Int → Bool) (v m : Int) : Int → Int → Bool := match putE S v m with
  | .ok S' => S'
  | .error _ => S
def playS (l : List MOp) : Int → Int → Bool := l.foldl (fun S o => stepS S o.2.1 o.2.2) noS
theorem playS_snoc (l : List MOp) (o : MOp) : playS (l ++ [o]) = stepS (playS l) o.2.1 o.2.2 := by unfold playS; rw [List.foldl_append]; rfl
theorem putE_cases (S : Int → Int → Bool) (v m : Int) : (∃ c, putE S v m = .error c) ∨ (0 ≤ v ∧ v < 4 ∧ 1 ≤ m ∧ putE S v m = .ok (putS S v m)) := by
  unfold putE
  by_cases h : 0 ≤ v ∧ v < 4
  · rw [if_neg (by omega)]
    by_cases hm : m < 1
    · rw [if_pos hm]; exact .inl ⟨_, rfl⟩
    · rw [if_neg hm]; exact .inr ⟨h.1, h.2, by omega, rfl⟩
  · rw [if_pos h]; exact .inl ⟨_, rfl⟩
theorem stepS_eq (S : Int → Int → Bool) (v m a b : Int) : stepS S v m a b = (S a b || decide (a = v ∧ b = m ∧ 0 ≤ v ∧ v < 4 ∧ 1 ≤ m)) := by
  unfold stepS
  rcases putE_cases S v m with ⟨c, h⟩ | ⟨h1, h2, h3, h⟩
  · rw [h]
    have : ¬ (a = v ∧ b = m ∧ 0 ≤ v ∧ v < 4 ∧ 1 ≤ m) := fun ⟨_, _, h1, h2, h3⟩ => by
      unfold putE at h
      rw [if_neg (by omega), if_neg (by omega)] at h
      cases h
    simp [this]
  · rw [h]
    show putS S v m a b = _
    unfold putS
    by_cases ha : a = v
    · subst ha
      rw [if_pos rfl]
      by_cases hb : b = m
      · subst hb; simp [h1, h2, h3]
      · simp [hb]
    · simp [ha]
theorem Few.none (l : List Int) (h : l.length ≤ 100000) : Few noS l := ⟨fun _ _ h => (nomatch h), fun _ _ h => (nomatch h), h⟩
theorem Few.step {S : Int → Int → Bool} {l : List Int} (F : Few S l) {v m : Int} (hm : m ∈ l) (hw : (Lit.int .i64 m).wf = true) : Few (stepS S v m) l := by
  refine ⟨fun a b h => ?_, fun a b h => ?_, F.len⟩
  · rw [stepS_eq, Bool.or_eq_true, decide_eq_true_eq] at h
    rcases h with h | h
    · exact F.wf a b h
    · rw [h.2.1]; exact hw
  · rw [stepS_eq, Bool.or_eq_true, decide_eq_true_eq] at h
    rcases h with h | h
    · exact F.mem a b h
    · rw [h.2.1]; exact hm
theorem Few.mono {S : Int → Int → Bool} {l l' : List Int} (F : Few S l) (h : ∀ x ∈ l, x ∈ l') (hl : l'.length ≤ 100000) : Few S l' := ⟨F.wf, fun v k hk => h k (F.mem v k hk), hl⟩
theorem Few.sub {S S' : Int → Int → Bool} {l : List Int} (F : Few S l) (h : ∀ v k, S' v k = true → S v k = true) : Few S' l := ⟨fun v k hk => F.wf v k (h v k hk), fun v k hk => F.mem v k (h v k hk), F.len⟩
def keysM (l : List MOp) : List Int := l.map (fun o => o.2.2)
theorem keysM_mem {l : List MOp} {k : Nat} (h : k < l.length) : l[k].2.2 ∈ keysM l := List.mem_map.2 ⟨_, List.getElem_mem h, rfl⟩
def Mput1 (p : Nat) (S : Int → Int → Bool) (v m : Int) (M : List Assn) : Prop := ∃ E, M = E ++ [mtab p (stepS S v m)]
theorem MPut.one {p : Nat} {S : Int → Int → Bool} {v m : Int} {x : Value} {M : List Assn} (h : MPut p S v m x M) : Mput1 p S v m M := by
  unfold MPut at h
  unfold Mput1 stepS
  cases he : putE S v m with
  | ok S' => rw [he] at h; exact ⟨[], h.2⟩
  | error c =>
    rw [he] at h
    obtain ⟨E, _, h2⟩ := h
    exact ⟨E, h2⟩
set_option maxHeartbeats 1000000 in
set_option maxRecDepth 10000 in
theorem msame_ro (a1 a2 : Option Addr) (n1 c1 n2 c2 : Nat) (l1 l2 : List Int) (h1 : n1 = l1.length) (h2 : n2 = l2.length) (hs : n1 < 1000000) : RO G 11 [.slice a1 n1 c1, .slice a2 n2 c2] (fun h => readI a1 n1 l1 h ∧ readI a2 n2 l2 h) (.bool (decide (l1 = l2))) := by
  refine RO.enter Tryd.func11 rfl (by decide) rfl Tryd.ntmps11 rfl (fun A hu hA => ?_) (up_and (up_readS _ _ _ _) (up_readS _ _ _ _))
  have hE1 : ∀ {L}, A ∈ L → Ent L (readI a1 n1 l1) := fun m => Ent.mem m hu fun k x => (hA k x).1
  have hE2 : ∀ {L}, A ∈ L → Ent L (readI a2 n2 l2) := fun m => Ent.mem m hu fun k x => (hA k x).2
  by_cases hne : n1 = n2
  rotate_left
  · have : l1 ≠ l2 := fun e => hne (by rw [h1, h2, e])
    repeat (first | refine GD ?_ | refine NW fun _ => ?_)
    exact ret1 rfl ⟨by simp [this], MM⟩
  subst hne
  repeat (first | refine GD ?_ | refine NW fun _ => ?_)
  refine WC.loop (σ := Nat) (fun k => k ≤ n1 ∧ ∀ j, j < k → l1[j]? = l2[j]?)
    (fun k => [(0, .val (.slice a1 n1 c1)), (1, .val (.slice a2 n1 c2)), (12, .val (.int .i64 n1)), (13, .val (.int .i64 k))])
    (fun k => [A]) (fun k => n1 - k) 0 ⟨Nat.zero_le _, fun j hj => by omega⟩ ⟨rfl, rfl, rfl, rfl, trivial⟩ (Imp.refl _) ?_
  rintro k ⟨hk, hall⟩
  by_cases hlt : k < n1
  rotate_left
  · repeat (first | refine GD ?_ | refine NW fun _ => ?_)
    refine ret1 rfl ⟨?_, MM⟩
    have : l1 = l2 := List.ext_getElem? fun i => by
      by_cases hi : i < k
      · exact hall i hi
      · rw [List.getElem?_eq_none (by omega), List.getElem?_eq_none (by omega)]
    simp [this]
  have hl1 : k < l1.length := by omega
  have hl2 : k < l2.length := by omega
  repeat (first | refine GD ?_ | refine NW fun _ => ?_)
  refine WC.fact (Ent.some (hE1 MM) (by omega)) ?_
  rintro ⟨b, off, rfl⟩
  refine WC.fact (Ent.some (hE2 MM) (by omega)) ?_
  rintro ⟨b', off', rfl⟩
  refine RD 9 9 (_) ?_
  refine WP 0 ?_
  refine WP 1 ?_
  refine WP 2 ?_
  refine VL 3 (iV l1[k]) rfl rfl rfl rfl (.inl ⟨rfl, Ent.elem (hE1 MM) rfl (int_get hl1)⟩) ?_
  refine WP 4 ?_
  refine WP 5 ?_
  refine WP 6 ?_
  refine VL 7 (iV l2[k]) rfl rfl rfl rfl (.inl ⟨rfl, Ent.elem (hE2 MM) rfl (int_get hl2)⟩) ?_
  refine WP 8 ?_
  refine DN ?_
  by_cases he : l1[k] = l2[k]
  · rw [decide_eq_true he]
    repeat (first | refine GD ?_ | refine NW fun _ => ?_)
    exact ⟨k + 1, ⟨by omega, fun j hj => by
      by_cases e : j = k
      · subst e; rw [List.getElem?_eq_getElem hl1, List.getElem?_eq_getElem hl2, he]
      · exact hall j (by omega)⟩, by omega, ⟨rfl, rfl, rfl, rfl, trivial⟩, Imp.refl _⟩
  · rw [decide_eq_false he]
    repeat (first | refine GD ?_ | refine NW fun _ => ?_)
    refine ret1 rfl ⟨?_, MM⟩
    have : l1 ≠ l2 := fun e => he (by subst e; rfl)
    simp [this]
end Go.Proofs.YtacgheafbkfciaaDoor
/- Contracts of functions of the given program, and plain laws on what they compute: parts of the proofs of laws. -/

namespace Go.Proofs.YtacgheafbkfciaaDoor
open Go Go.GL

theorem sorted_one {f : Int → Bool} {l : List Int} {a : Int} (h : SortedOf f l) (hf : ∀ k, f k = true ↔ k = a) : l = [a] := by
  obtain ⟨h1, h2⟩ := h
  have ha : a ∈ l := (h2 a).2 ((hf a).2 rfl)
  have hall : ∀ x ∈ l, x = a := fun x hx => (hf x).1 ((h2 x).1 hx)
  match l, ha, hall, h1 with
  | [x], _, hall, _ => rw [hall x List.mem_cons_self]
  | x :: y :: r, _, hall, h1 =>
    have e1 := hall x List.mem_cons_self
    have e2 := hall y (List.mem_cons_of_mem _ List.mem_cons_self)
    have := List.rel_of_pairwise_cons h1 (List.mem_cons_self (a := y) (l := r))
    omega
set_option maxHeartbeats 4000000 in
set_option maxRecDepth 10000 in
theorem mawake_ro : RO G 5 [] (fun _ => True) (.bool true) := by
  refine RO.enter Tryd.func5 rfl (by decide) rfl Tryd.ntmps5 rfl (fun A hu hA => ?_) (fun _ _ _ h => h)
  repeat (first | refine GO ?_ | refine NW fun _ => ?_)
  rename_i p
  refine WL.imp (mtabNil p) ?_
  refine WL.step rfl (OP.call (pre := [mtab p noS]) rfl rfl (mput_ok p noS 0 2) PS rfl rfl ?_)
  intro v M h
  unfold MPut at h
  rw [show putE noS 0 2 = .ok (putS noS 0 2) from rfl] at h
  obtain ⟨rfl, rfl⟩ := h
  repeat (first | refine GO ?_ | refine NW fun _ => ?_)
  refine WL.guardT rfl rfl rfl rfl (OP.call (pre := [mtab p (putS noS 0 2)]) rfl rfl (mput_ok p _ 1 2) PS rfl rfl ?_)
  intro v M h
  unfold MPut at h
  rw [show putE (putS noS 0 2) 1 2 = .ok (putS (putS noS 0 2) 1 2) from rfl] at h
  obtain ⟨rfl, rfl⟩ := h
  have hSd : ∀ a b, putS (putS noS 0 2) 1 2 a b = true ↔ (a = 0 ∨ a = 1) ∧ b = 2 := fun a b => by
    unfold putS noS
    by_cases h1 : a = 1
    · subst h1; simp
    · by_cases h0 : a = 0
      · subst h0; simp
      · simp [h0, h1]
  generalize hS : putS (putS noS 0 2) 1 2 = S at *
  have hF : Few S [2] := ⟨fun a b h => (by rw [((hSd a b).1 h).2]; rfl), fun a b h => (by rw [((hSd a b).1 h).2]; exact List.mem_cons_self), by decide⟩
  have hr0 : ∀ k, rowS S 0 k = true ↔ k = 2 := fun k => by
    unfold rowS
    rw [if_pos (by decide), hSd]; simp
  repeat (first | refine GO ?_ | refine NW fun _ => ?_)
  refine WL.guardT rfl rfl rfl rfl (OP.sliceLit (c := [iV 0, iV 1]) rfl rfl rfl rfl rfl rfl rfl rfl (fun b => ?_))
  refine WL.guardT rfl rfl rfl rfl (OP.callRT rfl rfl (mnewest_rt p S (some ⟨b, 0, none⟩) 2 2 [0, 1] rfl (by decide)) (Ent.and (Ent.mem (A := mtab p S) MM (up_mtab _ _) fun _ a => a) (Ent.own (T := 3) (cap := 2) MM)) rfl rfl ?_)
  rintro _ _ ⟨k, hk, rfl, rfl⟩
  obtain rfl : k = 2 := by
    obtain ⟨_, h2, h3⟩ := hk
    have hl2 : lacksS S 2 [0, 1] = [] := by
      unfold lacksS
      rw [List.filter_eq_nil_iff]
      intro v hv
      have hv2 : v = 0 ∨ v = 1 := by simpa using hv
      have : rowS S v 2 = true := by
        unfold rowS
        rw [if_pos (by omega), hSd]
        exact ⟨hv2, rfl⟩
      simp [this]
    have := h3 2 (by decide) (by decide) hl2
    rcases h2 with h2 | ⟨_, h2⟩
    · omega
    · exact (hr0 k).1 (lacks_head h2 List.mem_cons_self)
  repeat (first | refine GO ?_ | refine NW fun _ => ?_)
  refine WL.guardT rfl rfl rfl rfl (OP.callRT rfl rfl (mof_rt p S 0 hF) (Ent.mem (A := mtab p S) MM (up_mtab _ _) fun _ a => a) rfl rfl ?_)
  rintro _ _ ⟨a, cap, l, hl, rfl, rfl⟩
  obtain rfl : l = [2] := sorted_one hl hr0
  repeat (first | refine GO ?_ | refine NW fun _ => ?_)
  exact ret1 rfl ⟨rfl, MM⟩
end Go.Proofs.YtacgheafbkfciaaDoor
/- Contracts of functions of the given program, and plain laws on what they compute: parts of the proofs of laws. -/

namespace Go.Proofs.YtacgheafbkfciaaDoor
open Go Go.GL Go.Extern

/-- a type's handle -/
def hd (t : Nat) : Value := .pointer (some ⟨1, t, none⟩)
def rt (t : Nat) : Value := .iface 84 (.agg #[hd t])
def errT : Value := rt 29
theorem xValueOf : IsExt Tryd.prog 28 (fun args => ReflectliteValue.unpack (args.getD 0 (.tuple #[]))) := fun args w => run_callFunc_extern (e := (fun args => ReflectliteValue.unpack (args.getD 0 (.tuple #[])))) Tryd.func28 (by kernel_rfl) (by kernel_rfl) (by kernel_rfl) (by kernel_rfl) args w
theorem xType : IsExt Tryd.prog 29 (ReflectliteValue.methodAny (ReflectliteValue.valueError "reflectlite.Value.Type" 0) (fun t _ _ _ => ReflectliteType.toType t)) := fun args w => run_callFunc_extern (e := (ReflectliteValue.methodAny (ReflectliteValue.valueError "reflectlite.Value.Type" 0) (fun t _ _ _ => ReflectliteType.toType t))) Tryd.func29 (by kernel_rfl) (by kernel_rfl) (by kernel_rfl) (by kernel_rfl) args w
theorem xIsNil : IsExt Tryd.prog 30 (ReflectliteValue.method (ReflectliteValue.valueError "reflectlite.Value.IsNil" 0) ReflectliteValue.isNil) := fun args w => run_callFunc_extern (e := (ReflectliteValue.method (ReflectliteValue.valueError "reflectlite.Value.IsNil" 0) ReflectliteValue.isNil)) Tryd.func30 (by kernel_rfl) (by kernel_rfl) (by kernel_rfl) (by kernel_rfl) args w
theorem xKind : IsExt Tryd.prog 73 (ReflectliteType.abiMethod fun t => do pure (.int .u8 (← Rtype.kind t))) := fun args w => run_callFunc_extern (e := (ReflectliteType.abiMethod fun t => do pure (.int .u8 (← Rtype.kind t)))) Tryd.func73 (by kernel_rfl) (by kernel_rfl) (by kernel_rfl) (by kernel_rfl) args w
theorem xElem : IsExt Tryd.prog 85 (ReflectliteType.method ReflectliteType.elem) := fun args w => run_callFunc_extern (e := (ReflectliteType.method ReflectliteType.elem)) Tryd.func85 (by kernel_rfl) (by kernel_rfl) (by kernel_rfl) (by kernel_rfl) args w
theorem xImplements : IsExt Tryd.prog 86 (ReflectliteType.relation "Implements" ReflectliteType.implements_) := fun args w => run_callFunc_extern (e := (ReflectliteType.relation "Implements" ReflectliteType.implements_)) Tryd.func86 (by kernel_rfl) (by kernel_rfl) (by kernel_rfl) (by kernel_rfl) args w
theorem xTypeOf : IsExt Tryd.prog 35 ReflectliteType.typeOf := fun args w => run_callFunc_extern (e := ReflectliteType.typeOf) Tryd.func35 (by kernel_rfl) (by kernel_rfl) (by kernel_rfl) (by kernel_rfl) args w
theorem xAssignableTo : IsExt Tryd.prog 83 (ReflectliteType.relation "AssignableTo" ReflectliteType.assignableTo) := fun args w => run_callFunc_extern (e := (ReflectliteType.relation "AssignableTo" ReflectliteType.assignableTo)) Tryd.func83 (by kernel_rfl) (by kernel_rfl) (by kernel_rfl) (by kernel_rfl) args w
theorem xElemV : IsExt Tryd.prog 36 (ReflectliteValue.method (ReflectliteValue.valueError "reflectlite.Value.Elem" 0) ReflectliteValue.elem) := fun args w => run_callFunc_extern (e := (ReflectliteValue.method (ReflectliteValue.valueError "reflectlite.Value.Elem" 0) ReflectliteValue.elem)) Tryd.func36 (by kernel_rfl) (by kernel_rfl) (by kernel_rfl) (by kernel_rfl) args w
theorem xSet : IsExt Tryd.prog 37 ReflectliteValue.set := fun args w => run_callFunc_extern (e := ReflectliteValue.set) Tryd.func37 (by kernel_rfl) (by kernel_rfl) (by kernel_rfl) (by kernel_rfl) args w
theorem mKind (h : Value) (w : World) : (Go.method (Tryd.prog.types.size + Made.depth) 84 (.agg #[h]) "Kind").run Tryd.prog w = .ok (73, h) w := by kernel_rfl
theorem mElem (h : Value) (w : World) : (Go.method (Tryd.prog.types.size + Made.depth) 84 (.agg #[h]) "Elem").run Tryd.prog w = .ok (85, .agg #[h]) w := by kernel_rfl
theorem mImplements (h : Value) (w : World) : (Go.method (Tryd.prog.types.size + Made.depth) 84 (.agg #[h]) "Implements").run Tryd.prog w = .ok (86, .agg #[h]) w := by kernel_rfl
theorem mAssignableTo (h : Value) (w : World) : (Go.method (Tryd.prog.types.size + Made.depth) 84 (.agg #[h]) "AssignableTo").run Tryd.prog w = .ok (83, .agg #[h]) w := by kernel_rfl
theorem mUnwrap (v : Value) (w : World) : (Go.method (Tryd.prog.types.size + Made.depth) 63 v "Unwrap").run Tryd.prog w = .ok (78, v) w := by kernel_rfl
theorem valueOfNP (t : Addr) (w : World) : (ReflectliteValue.unpack (.iface 55 (.pointer (some t)))).run Tryd.prog w = .ok (.agg #[hd 55, .pointer (some ⟨w.heap.size, 0, none⟩), .int .u64 150]) (w.alloc (.cells #[.pointer (some t)] 55)) := by kernel_rfl
theorem typeNP (a : Addr) (w : World) : ((ReflectliteValue.methodAny (ReflectliteValue.valueError "reflectlite.Value.Type" 0) (fun t _ _ _ => ReflectliteType.toType t)) #[.agg #[hd 55, .pointer (some a), .int .u64 150]]).run Tryd.prog w = .ok (rt 55) w := by kernel_rfl
theorem partsNP (a : Addr) (w : World) : (ReflectliteValue.parts (.agg #[hd 55, .pointer (some a), .int .u64 150])).run Tryd.prog w = .ok (some (55, a, 150)) w := by kernel_rfl
theorem valueOfFF (t : Addr) (w : World) : (ReflectliteValue.unpack (.iface 82 (.pointer (some t)))).run Tryd.prog w = .ok (.agg #[hd 82, .pointer (some ⟨w.heap.size, 0, none⟩), .int .u64 150]) (w.alloc (.cells #[.pointer (some t)] 82)) := by kernel_rfl
theorem typeFF (a : Addr) (w : World) : ((ReflectliteValue.methodAny (ReflectliteValue.valueError "reflectlite.Value.Type" 0) (fun t _ _ _ => ReflectliteType.toType t)) #[.agg #[hd 82, .pointer (some a), .int .u64 150]]).run Tryd.prog w = .ok (rt 82) w := by kernel_rfl
theorem partsFF (a : Addr) (w : World) : (ReflectliteValue.parts (.agg #[hd 82, .pointer (some a), .int .u64 150])).run Tryd.prog w = .ok (some (82, a, 150)) w := by kernel_rfl
theorem rlm (z : Sem Value) (f : TypeId → Addr → Nat → Nat → Sem Value) (v : Value) : ReflectliteValue.method z f #[v] = (do match ← ReflectliteValue.parts v with | none => z | some (t, a, fl) => f t a fl (fl % 32)) := rfl
theorem isNilNP (a p : Addr) (W : World) (ha : W.cell? a = some (.pointer (some p))) : ((ReflectliteValue.method (ReflectliteValue.valueError "reflectlite.Value.IsNil" 0) ReflectliteValue.isNil) #[.agg #[hd 55, .pointer (some a), .int .u64 150]]).run Tryd.prog W = .ok (.bool false) W := by
  rw [rlm]
  simp only [Sem.run_bind, partsNP, Result.andThen]
  simp [ReflectliteValue.isNil, loadVar, isAgg, underlying, Tryd.underlying55, ha, Result.andThen]
theorem isNilFF (a p : Addr) (W : World) (ha : W.cell? a = some (.pointer (some p))) : ((ReflectliteValue.method (ReflectliteValue.valueError "reflectlite.Value.IsNil" 0) ReflectliteValue.isNil) #[.agg #[hd 82, .pointer (some a), .int .u64 150]]).run Tryd.prog W = .ok (.bool false) W := by
  rw [rlm]
  simp only [Sem.run_bind, partsFF, Result.andThen]
  simp [ReflectliteValue.isNil, loadVar, isAgg, underlying, Tryd.underlying82, ha, Result.andThen]
theorem kindNP (w : World) : ((ReflectliteType.abiMethod fun t => do pure (.int .u8 (← Rtype.kind t))) #[hd 55]).run Tryd.prog w = .ok (.int .u8 22) w := by kernel_rfl
theorem kindFF (w : World) : ((ReflectliteType.abiMethod fun t => do pure (.int .u8 (← Rtype.kind t))) #[hd 82]).run Tryd.prog w = .ok (.int .u8 22) w := by kernel_rfl
theorem kindN (w : World) : ((ReflectliteType.abiMethod fun t => do pure (.int .u8 (← Rtype.kind t))) #[hd 26]).run Tryd.prog w = .ok (.int .u8 2) w := by kernel_rfl
theorem kindF (w : World) : ((ReflectliteType.abiMethod fun t => do pure (.int .u8 (← Rtype.kind t))) #[hd 63]).run Tryd.prog w = .ok (.int .u8 22) w := by kernel_rfl
theorem elemNP (w : World) : ((ReflectliteType.method ReflectliteType.elem) #[.agg #[hd 55]]).run Tryd.prog w = .ok (rt 26) w := by kernel_rfl
theorem elemOfNP (w : World) : (Rtype.elem? 55).run Tryd.prog w = .ok (some 26) w := by kernel_rfl
theorem elemFF (w : World) : ((ReflectliteType.method ReflectliteType.elem) #[.agg #[hd 82]]).run Tryd.prog w = .ok (rt 63) w := by kernel_rfl
theorem elemOfFF (w : World) : (Rtype.elem? 82).run Tryd.prog w = .ok (some 63) w := by kernel_rfl
theorem implementsN (w : World) : ((ReflectliteType.relation "Implements" ReflectliteType.implements_) #[.agg #[hd 26], errT]).run Tryd.prog w = .ok (.bool true) w := by kernel_rfl
theorem typeOfN (v : Value) (w : World) : (ReflectliteType.typeOf #[.iface 26 v]).run Tryd.prog w = .ok (rt 26) w := by kernel_rfl
theorem mkN (p : Addr) (w : World) : (ReflectliteValue.mk 26 p ReflectliteValue.flagAddr).run Tryd.prog w = .ok (.agg #[hd 26, .pointer (some p), .int .u64 386]) w := by kernel_rfl
theorem partsAN (a : Addr) (w : World) : (ReflectliteValue.parts (.agg #[hd 26, .pointer (some a), .int .u64 386])).run Tryd.prog w = .ok (some (26, a, 386)) w := by kernel_rfl
theorem partsBN (a : Addr) (w : World) : (ReflectliteValue.parts (.agg #[hd 26, .pointer (some a), .int .u64 130])).run Tryd.prog w = .ok (some (26, a, 130)) w := by kernel_rfl
theorem directN (w : World) : (Rtype.directlyAssignable 26 26).run Tryd.prog w = .ok true w := by kernel_rfl
theorem implementsF (w : World) : ((ReflectliteType.relation "Implements" ReflectliteType.implements_) #[.agg #[hd 63], errT]).run Tryd.prog w = .ok (.bool true) w := by kernel_rfl
theorem typeOfF (v : Value) (w : World) : (ReflectliteType.typeOf #[.iface 63 v]).run Tryd.prog w = .ok (rt 63) w := by kernel_rfl
theorem mkF (p : Addr) (w : World) : (ReflectliteValue.mk 63 p ReflectliteValue.flagAddr).run Tryd.prog w = .ok (.agg #[hd 63, .pointer (some p), .int .u64 406]) w := by kernel_rfl
theorem partsAF (a : Addr) (w : World) : (ReflectliteValue.parts (.agg #[hd 63, .pointer (some a), .int .u64 406])).run Tryd.prog w = .ok (some (63, a, 406)) w := by kernel_rfl
theorem partsBF (a : Addr) (w : World) : (ReflectliteValue.parts (.agg #[hd 63, .pointer (some a), .int .u64 150])).run Tryd.prog w = .ok (some (63, a, 150)) w := by kernel_rfl
theorem directF (w : World) : (Rtype.directlyAssignable 63 63).run Tryd.prog w = .ok true w := by kernel_rfl
theorem assignFN (w : World) : ((ReflectliteType.relation "AssignableTo" ReflectliteType.assignableTo) #[.agg #[hd 63], rt 26]).run Tryd.prog w = .ok (.bool false) w := by kernel_rfl
theorem assignNN (w : World) : ((ReflectliteType.relation "AssignableTo" ReflectliteType.assignableTo) #[.agg #[hd 26], rt 26]).run Tryd.prog w = .ok (.bool true) w := by kernel_rfl
theorem assignFF (w : World) : ((ReflectliteType.relation "AssignableTo" ReflectliteType.assignableTo) #[.agg #[hd 63], rt 63]).run Tryd.prog w = .ok (.bool true) w := by kernel_rfl
theorem assignNF (w : World) : ((ReflectliteType.relation "AssignableTo" ReflectliteType.assignableTo) #[.agg #[hd 26], rt 63]).run Tryd.prog w = .ok (.bool false) w := by kernel_rfl
theorem valueOfF (e : Addr) (w : World) : (ReflectliteValue.unpack (.iface 63 (.pointer (some e)))).run Tryd.prog w = .ok (.agg #[hd 63, .pointer (some ⟨w.heap.size, 0, none⟩), .int .u64 150]) (w.alloc (.cells #[.pointer (some e)] 63)) := by kernel_rfl
theorem valueOfN (c : Int) (w : World) : (ReflectliteValue.unpack (.iface 26 (.int .i64 c))).run Tryd.prog w = .ok (.agg #[hd 26, .pointer (some ⟨w.heap.size, 0, none⟩), .int .u64 130]) (w.alloc (.cells #[.int .i64 c] 26)) := by kernel_rfl
theorem elemVNP (a p : Addr) (W : World) (ha : W.cell? a = some (.pointer (some p))) : ((ReflectliteValue.method (ReflectliteValue.valueError "reflectlite.Value.Elem" 0) ReflectliteValue.elem) #[.agg #[hd 55, .pointer (some a), .int .u64 150]]).run Tryd.prog W = .ok (.agg #[hd 26, .pointer (some p), .int .u64 386]) W := by
  rw [rlm]
  simp only [Sem.run_bind, partsNP, Result.andThen]
  simp [ReflectliteValue.elem, loadVar, isAgg, underlying, Tryd.underlying55, ha, Result.andThen, elemOfNP, mkN]
theorem elemVFF (a p : Addr) (W : World) (ha : W.cell? a = some (.pointer (some p))) : ((ReflectliteValue.method (ReflectliteValue.valueError "reflectlite.Value.Elem" 0) ReflectliteValue.elem) #[.agg #[hd 82, .pointer (some a), .int .u64 150]]).run Tryd.prog W = .ok (.agg #[hd 63, .pointer (some p), .int .u64 406]) W := by
  rw [rlm]
  simp only [Sem.run_bind, partsFF, Result.andThen]
  simp [ReflectliteValue.elem, loadVar, isAgg, underlying, Tryd.underlying82, ha, Result.andThen, elemOfFF, mkF]
theorem rls (v x : Value) : ReflectliteValue.set #[v, x] = (do
    let (some (dst, a, fl), some (src, b, _)) := (← ReflectliteValue.parts v, ← ReflectliteValue.parts x)
      | unsupported (.noEntry "extern/(internal/reflectlite.Value).Set.zeroValue")
    if fl / ReflectliteValue.flagAddr % 2 == 0 then unsupported (.noEntry "extern/(internal/reflectlite.Value).Set.unaddressable")
    let val ← loadVar src b
    if ← Rtype.directlyAssignable dst src then storeVar dst a val
    else if ← Rtype.implements dst src then
      if (← Rtype.kind src) == 20 then
        match val with
        | .nilIface => unsupported (.noEntry "extern/reflectlite: a nil value of one interface type handed on as a value of another")
        | _ => storeVar dst a val
      else storeVar dst a (.iface src val)
    else panicString ("reflectlite.Set: value of type " ++ (← Rtype.spelt src) ++ " is not assignable to type " ++ (← Rtype.spelt dst))
    pure (.tuple #[])) := rfl
theorem sizeN (w : World) : (sizeOf 26).run Tryd.prog w = .ok 1 w := by kernel_rfl
theorem setN (ta b : Addr) (c : Int) (old : Value) (W : World) (hb : W.cell? b = some (.int .i64 c)) (ht : W.cell? ta = some old) (hf : W.frozen? ta = false) :
    (ReflectliteValue.set #[.agg #[hd 26, .pointer (some ta), .int .u64 386], .agg #[hd 26, .pointer (some b), .int .u64 130]]).run Tryd.prog W = .ok (.tuple #[]) (W.setCell ta (.int .i64 c)) := by
  rw [rls]
  simp only [Sem.run_bind, partsAN, partsBN, Result.andThen]
  simp [ReflectliteValue.flagAddr, loadVar, isAgg, underlying, Tryd.underlying26, hb, Result.andThen, directN, storeVar, Value.cells, storeCells, Addr.add]
  rw [run_store Tryd.prog W ta _ _ (by rfl)]
  simp [ht, hf]
theorem sizeF (w : World) : (sizeOf 63).run Tryd.prog w = .ok 1 w := by kernel_rfl
theorem setF (ta b : Addr) (c : Option Addr) (old : Value) (W : World) (hb : W.cell? b = some (.pointer c)) (ht : W.cell? ta = some old) (hf : W.frozen? ta = false) :
    (ReflectliteValue.set #[.agg #[hd 63, .pointer (some ta), .int .u64 406], .agg #[hd 63, .pointer (some b), .int .u64 150]]).run Tryd.prog W = .ok (.tuple #[]) (W.setCell ta (.pointer c)) := by
  rw [rls]
  simp only [Sem.run_bind, partsAF, partsBF, Result.andThen]
  simp [ReflectliteValue.flagAddr, loadVar, isAgg, underlying, Tryd.underlying63, hb, Result.andThen, directF, storeVar, Value.cells, storeCells, Addr.add]
  rw [run_store Tryd.prog W ta _ _ (by rfl)]
  simp [ht, hf]
theorem assertFIA (v : Value) (w : World) : (Instr.typeAssert (.iface 63 v) 29 89 true).run Tryd.prog w = .ok (.tuple #[.nilIface, .bool false]) w := run_typeAssert_lacksB Tryd.underlying89 (by kernel_rfl) (by kernel_rfl) v 29 w
theorem assertFIU (v : Value) (w : World) : (Instr.typeAssert (.iface 63 v) 29 92 true).run Tryd.prog w = .ok (.tuple #[.iface 63 v, .bool true]) w := run_typeAssert_hasB Tryd.underlying92 (by kernel_rfl) v 29 w
theorem assertNIA (v : Value) (w : World) : (Instr.typeAssert (.iface 26 v) 29 89 true).run Tryd.prog w = .ok (.tuple #[.nilIface, .bool false]) w := run_typeAssert_lacksB Tryd.underlying89 (by kernel_rfl) (by kernel_rfl) v 29 w
theorem assertNIU (v : Value) (w : World) : (Instr.typeAssert (.iface 26 v) 29 92 true).run Tryd.prog w = .ok (.tuple #[.nilIface, .bool false]) w := run_typeAssert_lacksB Tryd.underlying92 (by kernel_rfl) (by kernel_rfl) v 29 w
theorem assertNIL (v : Value) (w : World) : (Instr.typeAssert (.iface 26 v) 29 94 true).run Tryd.prog w = .ok (.tuple #[.nilIface, .bool false]) w := run_typeAssert_lacksB Tryd.underlying94 (by kernel_rfl) (by kernel_rfl) v 29 w
end Go.Proofs.YtacgheafbkfciaaDoor
/- Contracts of functions of the given program, and plain laws on what they compute: parts of the proofs of laws. -/

namespace Go.Proofs.YtacgheafbkfciaaDoor
open Go Go.GL Go.Extern

/-- the cells of a fault -/
def faultCells (op : ByteArray) (at_ c : Int) : List Value := [.string op, .int .i64 at_, .iface 26 (.int .i64 c)]
/-- the type of errors lies where errors.As looks for it -/
def ErrT : Assn := cellAt 0 0 errT
theorem up_ErrT : Up ErrT := up_cellAt _ _ _
theorem cell_of_blk0 {L : List Assn} {w : World} {b : Nat} {c : List Value} {T : TypeId} {v : Value} (s : Sat L w) (m : blk b c T ∈ L) (h : c[0]? = some v) : w.cell? ⟨b, 0, none⟩ = some v :=
  cell_of_cellAt ((Ent.blk m h) _ s)
theorem cell_of_cells0 {L : List Assn} {w : World} {b off i : Nat} {l : List Value} {v : Value} (s : Sat L w) (m : Ent L (cellsAt b off l)) (h : l[i]? = some v) : w.cell? ⟨b, off + i, none⟩ = some v :=
  cell_of_cellAt (cellsAt_one (m _ s) h)
set_option maxRecDepth 10000 in
theorem as_nil (v : Value) : RO G 20 [.nilIface, v] (fun _ => True) (.bool false) := by
  refine RO.enter Tryd.func20 rfl (by decide) rfl Tryd.ntmps20 rfl (fun A _ hA => ?_) (fun _ _ _ h => h)
  repeat (first | refine GO ?_ | refine NW fun _ => ?_)
  exact ret1 rfl ⟨rfl, MM⟩
set_option maxRecDepth 10000 in
theorem unwrap_ro (b : Nat) (op : ByteArray) (at_ c : Int) : RO G 78 [.pointer (some ⟨b, 0, none⟩)] (cellsAt b 0 (faultCells op at_ c)) (.iface 26 (.int .i64 c)) := by
  refine RO.enter Tryd.func78 rfl (by decide) rfl Tryd.ntmps78 rfl (fun A hu hA => ?_) (up_cellsAt _ _ _)
  repeat (first | refine GO ?_ | refine NW fun _ => ?_)
  refine WL.step rfl (OP.load1 (v := .iface 26 (.int .i64 c)) rfl rfl rfl rfl (Ent.mem (A := A) MM hu (fun h x => cellsAt_one (i := 2) (hA h x) rfl)) rfl rfl ?_)
  repeat (first | refine GO ?_ | refine NW fun _ => ?_)
  exact ret1 rfl ⟨rfl, MM⟩
set_option maxHeartbeats 4000000 in
set_option maxRecDepth 10000 in
theorem asF_hit (b p q : Nat) (old : Value) :
    Triple G 31 [.iface 63 (.pointer (some ⟨b, 0, none⟩)), .iface 82 (.pointer (some ⟨p, 0, none⟩)), .agg #[hd 82, .pointer (some ⟨q, 0, none⟩), .int .u64 150], rt 63] [blk p [old] 63, blk q [.pointer (some ⟨p, 0, none⟩)] 82] (fun v M => v = .bool true ∧ M = [blk p [.pointer (some ⟨b, 0, none⟩)] 63]) := by
  refine Triple.enter Tryd.func31 rfl (by decide) rfl Tryd.ntmps31 rfl (fun X => ?_)
  repeat (first | refine GO ?_ | refine NW fun _ => ?_)
  rename_i bx
  refine WC.loop (σ := Unit) (fun _ => True) (fun _ => [(0, .val (.iface 63 (.pointer (some ⟨b, 0, none⟩)))), (1, .val (.iface 82 (.pointer (some ⟨p, 0, none⟩)))), (3, .val (rt 63)), (6, .val (.pointer (some ⟨bx, 0, none⟩))), (8, .val (.bool false))])
    (fun _ => [blk bx [hd 82, .pointer (some ⟨q, 0, none⟩), .int .u64 150] 72, blk p [old] 63, blk q [.pointer (some ⟨p, 0, none⟩)] 82, X]) (fun _ => 0) () trivial ⟨rfl, rfl, rfl, rfl, rfl, trivial⟩ II ?_
  rintro _ _
  repeat (first | refine GD ?_ | refine NW fun _ => ?_)
  refine WL.step rfl (OP.extP (.call xTypeOf rfl rfl) (fun w _ => typeOfF _ w) rfl rfl ?_)
  repeat (first | refine GD ?_ | refine NW fun _ => ?_)
  refine WL.step rfl (OP.extP (.inv xAssignableTo rfl rfl rfl (fun w => mAssignableTo _ w)) (fun w _ => assignFF w) rfl rfl ?_)
  repeat (first | refine GD ?_ | refine NW fun _ => ?_)
  refine WL.step rfl (OP.extP (.call xElemV rfl rfl) (fun w s => elemVFF _ ⟨p, 0, none⟩ w (cell_of_blk0 (b := q) s MM rfl)) rfl rfl ?_)
  repeat (first | refine GD ?_ | refine NW fun _ => ?_)
  refine WL.step rfl (OP.extNew (mk := (fun n => .agg #[hd 63, .pointer (some ⟨n, 0, none⟩), .int .u64 150])) (.call xValueOf rfl rfl) (fun w _ => valueOfF _ w) rfl rfl (fun q2 => ?_))
  repeat (first | refine GD ?_ | refine NW fun _ => ?_)
  refine WL.step rfl (OP.extSet (.call xSet rfl rfl) (fun w s => setF ⟨p, 0, none⟩ ⟨q2, 0, none⟩ (some ⟨b, 0, none⟩) old w (cell_of_blk0 (b := q2) s MM rfl) (cell_of_blk0 (b := p) s MM rfl) (Sat.notFrozen (b := p) (c := [old]) (T := 63) s MM (Nat.zero_lt_succ _))) (by repeat (first | exact Upd.here _ _ _ _ _ | apply Upd.there)) rfl rfl ?_)
  repeat (first | refine GD ?_ | refine NW fun _ => ?_)
  exact ret1 rfl ⟨_, ⟨rfl, rfl⟩, II⟩
set_option maxHeartbeats 4000000 in
set_option maxRecDepth 10000 in
theorem asF_miss (p q : Nat) (c : Int) :
    Triple G 31 [.iface 26 (.int .i64 c), .iface 82 (.pointer (some ⟨p, 0, none⟩)), .agg #[hd 82, .pointer (some ⟨q, 0, none⟩), .int .u64 150], rt 63] [] (fun v M => v = .bool false ∧ M = []) := by
  refine Triple.enter Tryd.func31 rfl (by decide) rfl Tryd.ntmps31 rfl (fun X => ?_)
  repeat (first | refine GO ?_ | refine NW fun _ => ?_)
  rename_i bx
  refine WC.loop (σ := Unit) (fun _ => True) (fun _ => [(0, .val (.iface 26 (.int .i64 c))), (1, .val (.iface 82 (.pointer (some ⟨p, 0, none⟩)))), (3, .val (rt 63)), (6, .val (.pointer (some ⟨bx, 0, none⟩))), (8, .val (.bool false))])
    (fun _ => [X]) (fun _ => 0) () trivial ⟨rfl, rfl, rfl, rfl, rfl, trivial⟩ II ?_
  rintro _ _
  repeat (first | refine GD ?_ | refine NW fun _ => ?_)
  refine WL.step rfl (OP.extP (.call xTypeOf rfl rfl) (fun w _ => typeOfN _ w) rfl rfl ?_)
  repeat (first | refine GD ?_ | refine NW fun _ => ?_)
  refine WL.step rfl (OP.extP (.inv xAssignableTo rfl rfl rfl (fun w => mAssignableTo _ w)) (fun w _ => assignNF w) rfl rfl ?_)
  repeat (first | refine GD ?_ | refine NW fun _ => ?_)
  refine WL.step rfl (OP.assert rfl rfl (fun w => assertNIA _ w) rfl rfl ?_)
  repeat (first | refine GD ?_ | refine NW fun _ => ?_)
  refine WL.step rfl (OP.assert rfl rfl (fun w => assertNIU _ w) rfl rfl ?_)
  repeat (first | refine GD ?_ | refine NW fun _ => ?_)
  refine WL.step rfl (OP.assert rfl rfl (fun w => assertNIL _ w) rfl rfl ?_)
  repeat (first | refine GD ?_ | refine NW fun _ => ?_)
  exact ret1 rfl ⟨_, ⟨rfl, rfl⟩, II⟩
set_option maxHeartbeats 4000000 in
set_option maxRecDepth 10000 in
theorem asN_fault (b p q : Nat) (op : ByteArray) (at_ c : Int) (old : Value) (A : Assn) (hu : Up A) (hA : ∀ h, A h → cellsAt b 0 (faultCells op at_ c) h) :
    Triple G 31 [.iface 63 (.pointer (some ⟨b, 0, none⟩)), .iface 55 (.pointer (some ⟨p, 0, none⟩)), .agg #[hd 55, .pointer (some ⟨q, 0, none⟩), .int .u64 150], rt 26] [blk p [old] 26, blk q [.pointer (some ⟨p, 0, none⟩)] 55, A] (fun v M => v = .bool true ∧ M = [blk p [.int .i64 c] 26, A]) := by
  refine Triple.enter Tryd.func31 rfl (by decide) rfl Tryd.ntmps31 rfl (fun X => ?_)
  repeat (first | refine GO ?_ | refine NW fun _ => ?_)
  rename_i bx
  refine WC.loop (σ := Bool) (fun _ => True) (fun s => match s with | true => [(0, .val (.iface 63 (.pointer (some ⟨b, 0, none⟩)))), (1, .val (.iface 55 (.pointer (some ⟨p, 0, none⟩)))), (3, .val (rt 26)), (6, .val (.pointer (some ⟨bx, 0, none⟩))), (8, .val (.bool false))] | false => [(0, .val (.iface 26 (.int .i64 c))), (1, .val (.iface 55 (.pointer (some ⟨p, 0, none⟩)))), (3, .val (rt 26)), (6, .val (.pointer (some ⟨bx, 0, none⟩))), (8, .val (.bool false))])
    (fun _ => [blk bx [hd 55, .pointer (some ⟨q, 0, none⟩), .int .u64 150] 72, blk p [old] 26, blk q [.pointer (some ⟨p, 0, none⟩)] 55, A, X]) (fun s => match s with | true => 1 | false => 0) true trivial ⟨rfl, rfl, rfl, rfl, rfl, trivial⟩ II ?_
  rintro s _
  cases s
  · repeat (first | refine GD ?_ | refine NW fun _ => ?_)
    refine WL.step rfl (OP.extP (.call xTypeOf rfl rfl) (fun w _ => typeOfN _ w) rfl rfl ?_)
    repeat (first | refine GD ?_ | refine NW fun _ => ?_)
    refine WL.step rfl (OP.extP (.inv xAssignableTo rfl rfl rfl (fun w => mAssignableTo _ w)) (fun w _ => assignNN w) rfl rfl ?_)
    repeat (first | refine GD ?_ | refine NW fun _ => ?_)
    refine WL.step rfl (OP.extP (.call xElemV rfl rfl) (fun w s => elemVNP _ ⟨p, 0, none⟩ w (cell_of_blk0 (b := q) s MM rfl)) rfl rfl ?_)
    repeat (first | refine GD ?_ | refine NW fun _ => ?_)
    refine WL.step rfl (OP.extNew (mk := (fun n => .agg #[hd 26, .pointer (some ⟨n, 0, none⟩), .int .u64 130])) (.call xValueOf rfl rfl) (fun w _ => valueOfN _ w) rfl rfl (fun q2 => ?_))
    repeat (first | refine GD ?_ | refine NW fun _ => ?_)
    refine WL.step rfl (OP.extSet (.call xSet rfl rfl) (fun w s => setN ⟨p, 0, none⟩ ⟨q2, 0, none⟩ c old w (cell_of_blk0 (b := q2) s MM rfl) (cell_of_blk0 (b := p) s MM rfl) (Sat.notFrozen (b := p) (c := [old]) (T := 26) s MM (Nat.zero_lt_succ _))) (by repeat (first | exact Upd.here _ _ _ _ _ | apply Upd.there)) rfl rfl ?_)
    repeat (first | refine GD ?_ | refine NW fun _ => ?_)
    exact ret1 rfl ⟨_, ⟨rfl, rfl⟩, II⟩
  · repeat (first | refine GD ?_ | refine NW fun _ => ?_)
    refine WL.step rfl (OP.extP (.call xTypeOf rfl rfl) (fun w _ => typeOfF _ w) rfl rfl ?_)
    repeat (first | refine GD ?_ | refine NW fun _ => ?_)
    refine WL.step rfl (OP.extP (.inv xAssignableTo rfl rfl rfl (fun w => mAssignableTo _ w)) (fun w _ => assignFN w) rfl rfl ?_)
    repeat (first | refine GD ?_ | refine NW fun _ => ?_)
    refine WL.step rfl (OP.assert rfl rfl (fun w => assertFIA _ w) rfl rfl ?_)
    repeat (first | refine GD ?_ | refine NW fun _ => ?_)
    refine WL.step rfl (OP.assert rfl rfl (fun w => assertFIU _ w) rfl rfl ?_)
    repeat (first | refine GD ?_ | refine NW fun _ => ?_)
    refine WL.step rfl (OP.invRO rfl rfl (fun w => mUnwrap _ w) (unwrap_ro b op at_ c) (Ent.mem (A := A) MM hu hA) rfl rfl ?_)
    repeat (first | refine GD ?_ | refine NW fun _ => ?_)
    exact ⟨false, trivial, by decide, ⟨rfl, rfl, rfl, rfl, rfl, trivial⟩, II⟩
set_option maxHeartbeats 4000000 in
set_option maxRecDepth 10000 in
theorem as_faults (b p : Nat) (old : Value) (A : Assn) (hu : Up A) (hA : ∀ h, A h → ErrT h) :
    Triple G 20 [.iface 63 (.pointer (some ⟨b, 0, none⟩)), .iface 82 (.pointer (some ⟨p, 0, none⟩))] ([blk p [old] 63, A]) (fun v M => v = .bool true ∧ M = [blk p [.pointer (some ⟨b, 0, none⟩)] 63, A]) := by
  refine Triple.enter Tryd.func20 rfl (by decide) rfl Tryd.ntmps20 rfl (fun F => ?_)
  repeat (first | refine GO ?_ | refine NW fun _ => ?_)
  refine WL.step rfl (OP.extNew (mk := fun n => .agg #[hd 82, .pointer (some ⟨n, 0, none⟩), .int .u64 150]) (.call xValueOf rfl rfl) (fun w _ => valueOfFF _ w) rfl rfl (fun q => ?_))
  repeat (first | refine GO ?_ | refine NW fun _ => ?_)
  refine WL.step rfl (OP.extP (.call xType rfl rfl) (fun w _ => typeFF _ w) rfl rfl ?_)
  repeat (first | refine GO ?_ | refine NW fun _ => ?_)
  refine WL.step rfl (OP.extP (.inv xKind rfl rfl rfl (fun w => mKind _ w)) (fun w _ => kindFF w) rfl rfl ?_)
  repeat (first | refine GO ?_ | refine NW fun _ => ?_)
  refine WL.guardT rfl rfl rfl rfl (OP.extP (.call xIsNil rfl rfl) (fun w s => isNilFF _ ⟨p, 0, none⟩ w (cell_of_blk0 (b := q) s MM rfl)) rfl rfl ?_)
  repeat (first | refine GO ?_ | refine NW fun _ => ?_)
  refine WL.step rfl (OP.extP (.inv xElem rfl rfl rfl (fun w => mElem _ w)) (fun w _ => elemFF w) rfl rfl ?_)
  repeat (first | refine GO ?_ | refine NW fun _ => ?_)
  refine WL.step rfl (OP.extP (.inv xKind rfl rfl rfl (fun w => mKind _ w)) (fun w _ => kindF w) rfl rfl ?_)
  repeat (first | refine GO ?_ | refine NW fun _ => ?_)
  refine WL.guardT rfl rfl rfl rfl (OP.load1 (v := errT) rfl rfl rfl rfl (Ent.mem (A := A) MM hu hA) rfl rfl ?_)
  repeat (first | refine GO ?_ | refine NW fun _ => ?_)
  refine WL.guardT rfl rfl rfl rfl (OP.extP (.inv xImplements rfl rfl rfl (fun w => mImplements _ w)) (fun w _ => implementsF w) rfl rfl ?_)
  repeat (first | refine GO ?_ | refine NW fun _ => ?_)
  refine WL.step rfl (OP.call (pre := [blk p [old] 63, blk q [.pointer (some ⟨p, 0, none⟩)] 82]) rfl rfl (asF_hit b p q old) PS rfl rfl ?_)
  rintro _ _ ⟨rfl, rfl⟩
  repeat (first | refine GO ?_ | refine NW fun _ => ?_)
  exact ret1 rfl ⟨_, ⟨rfl, rfl⟩, II⟩
set_option maxHeartbeats 4000000 in
set_option maxRecDepth 10000 in
theorem as_faultsN (p : Nat) (c : Int) (old : Value) (A : Assn) (hu : Up A) (hA : ∀ h, A h → ErrT h) :
    Triple G 20 [.iface 26 (.int .i64 c), .iface 82 (.pointer (some ⟨p, 0, none⟩))] ([blk p [old] 63, A]) (fun v M => v = .bool false ∧ M = [blk p [old] 63, A]) := by
  refine Triple.enter Tryd.func20 rfl (by decide) rfl Tryd.ntmps20 rfl (fun F => ?_)
  repeat (first | refine GO ?_ | refine NW fun _ => ?_)
  refine WL.step rfl (OP.extNew (mk := fun n => .agg #[hd 82, .pointer (some ⟨n, 0, none⟩), .int .u64 150]) (.call xValueOf rfl rfl) (fun w _ => valueOfFF _ w) rfl rfl (fun q => ?_))
  repeat (first | refine GO ?_ | refine NW fun _ => ?_)
  refine WL.step rfl (OP.extP (.call xType rfl rfl) (fun w _ => typeFF _ w) rfl rfl ?_)
  repeat (first | refine GO ?_ | refine NW fun _ => ?_)
  refine WL.step rfl (OP.extP (.inv xKind rfl rfl rfl (fun w => mKind _ w)) (fun w _ => kindFF w) rfl rfl ?_)
  repeat (first | refine GO ?_ | refine NW fun _ => ?_)
  refine WL.guardT rfl rfl rfl rfl (OP.extP (.call xIsNil rfl rfl) (fun w s => isNilFF _ ⟨p, 0, none⟩ w (cell_of_blk0 (b := q) s MM rfl)) rfl rfl ?_)
  repeat (first | refine GO ?_ | refine NW fun _ => ?_)
  refine WL.step rfl (OP.extP (.inv xElem rfl rfl rfl (fun w => mElem _ w)) (fun w _ => elemFF w) rfl rfl ?_)
  repeat (first | refine GO ?_ | refine NW fun _ => ?_)
  refine WL.step rfl (OP.extP (.inv xKind rfl rfl rfl (fun w => mKind _ w)) (fun w _ => kindF w) rfl rfl ?_)
  repeat (first | refine GO ?_ | refine NW fun _ => ?_)
  refine WL.guardT rfl rfl rfl rfl (OP.load1 (v := errT) rfl rfl rfl rfl (Ent.mem (A := A) MM hu hA) rfl rfl ?_)
  repeat (first | refine GO ?_ | refine NW fun _ => ?_)
  refine WL.guardT rfl rfl rfl rfl (OP.extP (.inv xImplements rfl rfl rfl (fun w => mImplements _ w)) (fun w _ => implementsF w) rfl rfl ?_)
  repeat (first | refine GO ?_ | refine NW fun _ => ?_)
  refine WL.step rfl (OP.call (pre := []) (F := _) rfl rfl (asF_miss p q c) (Imp.refl _) rfl rfl ?_)
  rintro _ _ ⟨rfl, rfl⟩
  repeat (first | refine GO ?_ | refine NW fun _ => ?_)
  exact ret1 rfl ⟨_, ⟨rfl, rfl⟩, II⟩
set_option maxHeartbeats 4000000 in
set_option maxRecDepth 10000 in
theorem as_code (b p : Nat) (op : ByteArray) (at_ c : Int) (old : Value) (A : Assn) (hu : Up A) (hA : ∀ h, A h → ErrT h) (hA2 : ∀ h, A h → cellsAt b 0 (faultCells op at_ c) h) :
    Triple G 20 [.iface 63 (.pointer (some ⟨b, 0, none⟩)), .iface 55 (.pointer (some ⟨p, 0, none⟩))] ([blk p [old] 26, A]) (fun v M => v = .bool true ∧ M = [blk p [.int .i64 c] 26, A]) := by
  refine Triple.enter Tryd.func20 rfl (by decide) rfl Tryd.ntmps20 rfl (fun F => ?_)
  repeat (first | refine GO ?_ | refine NW fun _ => ?_)
  refine WL.step rfl (OP.extNew (mk := fun n => .agg #[hd 55, .pointer (some ⟨n, 0, none⟩), .int .u64 150]) (.call xValueOf rfl rfl) (fun w _ => valueOfNP _ w) rfl rfl (fun q => ?_))
  repeat (first | refine GO ?_ | refine NW fun _ => ?_)
  refine WL.step rfl (OP.extP (.call xType rfl rfl) (fun w _ => typeNP _ w) rfl rfl ?_)
  repeat (first | refine GO ?_ | refine NW fun _ => ?_)
  refine WL.step rfl (OP.extP (.inv xKind rfl rfl rfl (fun w => mKind _ w)) (fun w _ => kindNP w) rfl rfl ?_)
  repeat (first | refine GO ?_ | refine NW fun _ => ?_)
  refine WL.guardT rfl rfl rfl rfl (OP.extP (.call xIsNil rfl rfl) (fun w s => isNilNP _ ⟨p, 0, none⟩ w (cell_of_blk0 (b := q) s MM rfl)) rfl rfl ?_)
  repeat (first | refine GO ?_ | refine NW fun _ => ?_)
  refine WL.step rfl (OP.extP (.inv xElem rfl rfl rfl (fun w => mElem _ w)) (fun w _ => elemNP w) rfl rfl ?_)
  repeat (first | refine GO ?_ | refine NW fun _ => ?_)
  refine WL.step rfl (OP.extP (.inv xKind rfl rfl rfl (fun w => mKind _ w)) (fun w _ => kindN w) rfl rfl ?_)
  repeat (first | refine GO ?_ | refine NW fun _ => ?_)
  refine WL.guardT rfl rfl rfl rfl (OP.load1 (v := errT) rfl rfl rfl rfl (Ent.mem (A := A) MM hu hA) rfl rfl ?_)
  repeat (first | refine GO ?_ | refine NW fun _ => ?_)
  refine WL.guardT rfl rfl rfl rfl (OP.extP (.inv xImplements rfl rfl rfl (fun w => mImplements _ w)) (fun w _ => implementsN w) rfl rfl ?_)
  repeat (first | refine GO ?_ | refine NW fun _ => ?_)
  refine WL.step rfl (OP.call (pre := [blk p [old] 26, blk q [.pointer (some ⟨p, 0, none⟩)] 55, A]) rfl rfl (asN_fault b p q op at_ c old A hu hA2) PS rfl rfl ?_)
  rintro _ _ ⟨rfl, rfl⟩
  repeat (first | refine GO ?_ | refine NW fun _ => ?_)
  exact ret1 rfl ⟨_, ⟨rfl, rfl⟩, II⟩
end Go.Proofs.YtacgheafbkfciaaDoor
