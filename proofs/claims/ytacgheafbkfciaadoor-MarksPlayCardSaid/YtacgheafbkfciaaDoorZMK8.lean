/- Contracts of functions of the given program, and plain laws: parts of the proofs of laws. -/
import Derived.Test.YtacgheafbkfciaaDoorZMK4
import Derived.Test.YtacgheafbkfciaaDoorZMK7
import Derived.Test.YtacgheafbkfciaaDoorZMK3
/- Contracts of functions of the given program, and plain laws on what they compute: parts of the proofs of laws. -/

namespace Go.GL
open Go
theorem WL.openMap {G : Ctx} {N : Nat} {ops : Array Oper} {rest : List Oper} {env : Env} {L M : List Assn} {k : Kont} {r : Nat} {m : Int → Option Value} (i : Imp L (mapA r m :: M)) (h : ∀ es clock, MapEs m es clock → WL G N ops rest env (objA r (.map es clock) :: M) k) : WL G N ops rest env L k := .mk fun a w ha hs => by
  obtain ⟨h1, h2, dj, e', ⟨es, clock, he, hb⟩, rest⟩ := i.sat hs
  exact (h es clock he) a w ha ⟨h1, h2, dj, e', hb, rest⟩
theorem Imp.closeMap {L M : List Assn} {r : Nat} {m : Int → Option Value} {es : Array MapEntry} {clock : Nat} (he : MapEs m es clock) (i : Imp L (objA r (.map es clock) :: M)) : Imp L (mapA r m :: M) := fun h s => stars_head_mono (fun _ hk => ⟨es, clock, he, hk⟩) (i h s)
end Go.GL
namespace Go.Proofs.YtacgheafbkfciaaDoor
open Go Go.GL

def forgetS (S : Int → Int → Bool) (v upto : Int) : Int → Int → Bool := fun a => if a = v then (fun m => S v m && decide (upto < m)) else S a
theorem forgetS_at (S : Int → Int → Bool) (v u : Int) : forgetS S v u v = fun m => S v m && decide (u < m) := if_pos rfl
theorem forgetS_ne {S : Int → Int → Bool} {v u a : Int} (h : a ≠ v) : forgetS S v u a = S a := if_neg h
theorem forgetS_no {S : Int → Int → Bool} {v u : Int} (h : ∀ m, S v m = false) (a : Int) : forgetS S v u a = S a := by
  unfold forgetS
  split
  · rename_i e; subst e; funext m; rw [h m]; rfl
  · rfl
theorem setM_del (f : Int → Bool) (k : Int) : delM (setM f) k = setM (fun b => if b = k then false else f b) := by
  funext x
  unfold delM setM
  by_cases h : x = k
  · simp [h]
  · simp [h]
theorem length_le_nat : ∀ {a b : List Nat}, a.Nodup → (∀ x ∈ a, x ∈ b) → a.length ≤ b.length
  | [], _, _, _ => Nat.zero_le _
  | x :: a, b, hn, hs => by
    have hx := hs x List.mem_cons_self
    have hn' := List.nodup_cons.1 hn
    have h := length_le_nat (a := a) (b := b.erase x) hn'.2 (fun y hy => by
      have hne : y ≠ x := fun e => hn'.1 (e ▸ hy)
      exact (List.mem_erase_of_ne hne).2 (hs y (List.mem_cons_of_mem _ hy)))
    rw [List.length_erase_of_mem hx] at h
    have : 0 < b.length := List.length_pos_of_mem hx
    simp only [List.length_cons]
    omega
theorem leftN_le {es es' : Array MapEntry} {seen : Array Nat} (hn : (es'.toList.map (·.born)).Nodup) (hs : ∀ x ∈ es'.toList, x ∈ es.toList) : leftN es' seen ≤ leftN es seen := by
  unfold leftN
  have h := length_le_nat (a := (es'.toList.filter (fun e => !seen.contains e.born)).map (·.born)) (b := (es.toList.filter (fun e => !seen.contains e.born)).map (·.born))
    (List.pairwise_map.2 ((List.pairwise_map.1 hn).filter _)) (fun x hx => by
      obtain ⟨y, hy, rfl⟩ := List.mem_map.1 hx
      rw [List.mem_filter] at hy
      exact List.mem_map.2 ⟨y, List.mem_filter.2 ⟨hs y hy.1, hy.2⟩, rfl⟩)
  simpa using h
structure FgI (S : Int → Bool) (u : Int) (f : Int → Bool) (es : Array MapEntry) (clock : Nat) (seen : Array Nat) : Prop where
  m : MapEs (setM f) es clock
  sub : ∀ k, f k = true → S k = true
  out : ∀ k, S k = true → f k = false → k ≤ u
  big : ∀ e ∈ es.toList, seen.contains e.born = true → ∀ k, e.key = .int .i64 k → u < k
theorem FgI.done {S : Int → Bool} {u : Int} {f : Int → Bool} {es : Array MapEntry} {clock : Nat} {seen : Array Nat} (I : FgI S u f es clock seen) (h : ∀ e ∈ es.toList, seen.contains e.born = true) : f = fun m => S m && decide (u < m) := by
  funext k
  cases hf : f k with
  | true =>
    obtain ⟨e, he, hk, _⟩ := (I.m.says k (.bool true)).1 (by unfold setM; rw [if_pos hf])
    have h1 := I.big e he (h e he) k hk
    rw [I.sub k hf]
    simp [h1]
  | false =>
    cases hs : S k with
    | false => rfl
    | true =>
      have := I.out k hs hf
      simp; omega
theorem born_inj {es : Array MapEntry} {clock : Nat} (h : Go.MapKept.Stamped es clock) {x y : MapEntry} (hx : x ∈ es.toList) (hy : y ∈ es.toList) (e : x.born = y.born) : x = y := by
  obtain ⟨i, hi, rfl⟩ := List.getElem_of_mem hx
  obtain ⟨j, hj, rfl⟩ := List.getElem_of_mem hy
  have hij := (List.getElem_inj (i := i) (j := j) (h₀ := by simpa using hi) (h₁ := by simpa using hj) h.2.1).1 (by simpa using e)
  subst hij; rfl
theorem FgI.keep {S : Int → Bool} {u : Int} {f : Int → Bool} {es : Array MapEntry} {clock : Nat} {seen : Array Nat} (I : FgI S u f es clock seen) {e : MapEntry} {k : Int} (he : e ∈ es.toList) (hk : e.key = .int .i64 k) (hb : u < k) : FgI S u f es clock (seen.push e.born) :=
  { I with
    big := fun e' he' hs k' hk' => by
      rcases seen_push hs with h | h
      · rw [born_inj I.m.st he' he h, hk] at hk'
        simp only [Value.int.injEq, true_and] at hk'
        omega
      · exact I.big e' he' h k' hk' }
theorem FgI.del {S : Int → Bool} {u : Int} {f : Int → Bool} {es es' : Array MapEntry} {clock : Nat} {seen : Array Nat} (I : FgI S u f es clock seen) {e : MapEntry} {k : Int} (he : e ∈ es.toList) (hk : e.key = .int .i64 k) (hb : k ≤ u) (hm : MapEs (delM (setM f) k) es' clock) (hs : ∀ x ∈ es'.toList, x ∈ es.toList) : FgI S u (fun b => if b = k then false else f b) es' clock (seen.push e.born) := by
  refine ⟨setM_del f k ▸ hm, fun a h => ?_, fun a h1 h2 => ?_, fun e' he' hs' k' hk' => ?_⟩
  · split at h
    · cases h
    · exact I.sub a h
  · split at h2
    · omega
    · exact I.out a h1 h2
  · rcases seen_push hs' with h | h
    · have h3 := born_inj I.m.st (hs e' he') he h
      subst h3
      have h4 := (hm.says k' e'.val).2 ⟨e', he', hk', rfl⟩
      rw [hk] at hk'
      simp only [Value.int.injEq, true_and] at hk'
      unfold delM at h4
      rw [if_pos hk'.symm] at h4
      cases h4
    · exact I.big e' (hs e' he') h k' hk'
set_option maxHeartbeats 16000000 in
set_option maxRecDepth 10000 in
theorem mforget_ok (p : Nat) (S : Int → Int → Bool) (v u : Int) :
    Triple G 6 [.pointer (some ⟨p, 0, none⟩), .int .i64 v, .int .i64 u] [mtab p S] (fun w M => w = .tuple #[] ∧ M = [mtab p (forgetS S v u)]) := by
  refine Triple.enter Tryd.func6 rfl (by decide) rfl Tryd.ntmps6 rfl (fun F => ?_)
  refine WC.open (M := [F]) (Ls := tabL p S) II (fun x => ?_)
  unfold tabL
  dsimp only [List.cons_append, List.nil_append]
  obtain ⟨mo, a, b, c, d⟩ := x
  dsimp only
  have hi : ∀ (f : Int → Bool) (r : Nat), innO f (some r) = mapA r (setM f) := fun _ _ => rfl
  repeat (first | refine GD ?_ | refine NW fun _ => ?_)
  by_cases hv : 0 ≤ v ∧ v < 4
  rotate_left
  · have hr : refAt (mo, a, b, c, d) v = none := by
      unfold refAt
      rw [if_neg (by omega), if_neg (by omega), if_neg (by omega), if_neg (by omega)]
    refine WL.step rfl (OP.callRO rfl rfl (tof_ro p (mo, a, b, c, d) v) (Ent.and (Ent.whole (T := 39) MM) (Ent.mem (A := outA mo (outM (mo, a, b, c, d))) MM (up_outA _ _) (fun _ a => a))) rfl rfl ?_)
    rw [show refAt (mo, a, b, c, d) v = none from hr]
    refine WL.step rfl (OP.rangeNil rfl rfl rfl rfl rfl rfl (fun it => ?_))
    repeat (first | refine GD ?_ | refine NW fun _ => ?_)
    refine WC.loop (σ := Unit) (fun _ => True)
      (fun _ => [(10, .val (.pointer (some ⟨it, 0, none⟩)))])
      (fun _ => [objA it (.mapIter none 0 #[] 0), blk p [.map mo] 39, outA mo (outM (mo, a, b, c, d)), innO (S 0) a, innO (S 1) b, innO (S 2) c, innO (S 3) d, F]) (fun _ => 0) () trivial ⟨rfl, trivial⟩ II ?_
    rintro ⟨⟩ _
    repeat (first | refine GD ?_ | refine NW fun _ => ?_)
    refine WL.step rfl (OP.nextNil rfl rfl (Ent.mem (A := objA it (.mapIter none 0 #[] 0)) MM (up_objA _ _) (fun _ a => a)) rfl rfl ?_)
    repeat (first | refine GD ?_ | refine NW fun _ => ?_)
    refine blockK.hit rfl (ret0n ⟨[mtab p (forgetS S v u)], ⟨rfl, rfl⟩, ?_⟩)
    exact Imp.trans II (mtabFold p (forgetS S v u) (mo, a, b, c, d) (forgetS_ne (by omega)) (forgetS_ne (by omega)) (forgetS_ne (by omega)) (forgetS_ne (by omega)))
  have hv : v = 0 ∨ v = 1 ∨ v = 2 ∨ v = 3 := by omega
  rcases hv with rfl | rfl | rfl | rfl
  · cases a with
    | none =>
      refine WL.fact (Ent.mem (A := innO (S 0) none) MM (up_innO _ _) (fun _ x => x)) (fun hfl => ?_)
      repeat (first | refine GD ?_ | refine NW fun _ => ?_)
      refine WL.step rfl (OP.callRO rfl rfl (tof_ro p (mo, none, b, c, d) 0) (Ent.and (Ent.whole (T := 39) MM) (Ent.mem (A := outA mo (outM (mo, none, b, c, d))) MM (up_outA _ _) (fun _ a => a))) rfl rfl ?_)
      rw [show refAt (mo, none, b, c, d) 0 = none from rfl]
      refine WL.step rfl (OP.rangeNil rfl rfl rfl rfl rfl rfl (fun it => ?_))
      repeat (first | refine GD ?_ | refine NW fun _ => ?_)
      refine WC.loop (σ := Unit) (fun _ => True)
        (fun _ => [(10, .val (.pointer (some ⟨it, 0, none⟩)))])
        (fun _ => [objA it (.mapIter none 0 #[] 0), blk p [.map mo] 39, outA mo (outM (mo, none, b, c, d)), innO (S 0) none, innO (S 1) b, innO (S 2) c, innO (S 3) d, F]) (fun _ => 0) () trivial ⟨rfl, trivial⟩ II ?_
      rintro ⟨⟩ _
      repeat (first | refine GD ?_ | refine NW fun _ => ?_)
      refine WL.step rfl (OP.nextNil rfl rfl (Ent.mem (A := objA it (.mapIter none 0 #[] 0)) MM (up_objA _ _) (fun _ a => a)) rfl rfl ?_)
      repeat (first | refine GD ?_ | refine NW fun _ => ?_)
      refine blockK.hit rfl (ret0n ⟨[mtab p (forgetS S 0 u)], ⟨rfl, rfl⟩, ?_⟩)
      exact Imp.trans II (mtabFold p (forgetS S 0 u) (mo, none, b, c, d) (forgetS_no hfl 0) (forgetS_no hfl 1) (forgetS_no hfl 2) (forgetS_no hfl 3))
    | some r =>
      rw [hi]
      repeat (first | refine GD ?_ | refine NW fun _ => ?_)
      refine WL.step rfl (OP.callRO rfl rfl (tof_ro p (mo, some r, b, c, d) 0) (Ent.and (Ent.whole (T := 39) MM) (Ent.mem (A := outA mo (outM (mo, some r, b, c, d))) MM (up_outA _ _) (fun _ a => a))) rfl rfl ?_)
      rw [show refAt (mo, some r, b, c, d) 0 = (some r) from rfl]
      refine WL.openMap (r := r) (m := setM (S 0)) P1 (fun es0 clock he0 => ?_)
      refine WL.step rfl (OP.rangeMap rfl rfl rfl rfl (Ent.mem (A := objA r (.map es0 clock)) MM (up_objA _ _) (fun _ a => a)) rfl rfl (fun it => ?_))
      repeat (first | refine GD ?_ | refine NW fun _ => ?_)
      refine WC.loop (σ := (Int → Bool) × Array MapEntry × Array Nat) (fun s => FgI (S 0) u s.1 s.2.1 clock s.2.2)
        (fun _ => [(0, .val (.pointer (some ⟨p, 0, none⟩))), (1, .val (.int .i64 0)), (2, .val (.int .i64 u)), (10, .val (.pointer (some ⟨it, 0, none⟩)))])
        (fun s => [objA it (.mapIter (some r) clock s.2.2 clock), objA r (.map s.2.1 clock), blk p [.map mo] 39, outA mo (outM (mo, some r, b, c, d)), innO (S 1) b, innO (S 2) c, innO (S 3) d, F]) (fun s => leftN s.2.1 s.2.2) (S 0, es0, #[]) ⟨he0, fun _ h => h, fun k h1 h2 => (by dsimp only at h2; rw [h1] at h2; cases h2), fun e _ h => by simp at h⟩ ⟨rfl, rfl, rfl, rfl, trivial⟩ II ?_
      rintro ⟨f, es, seen⟩ I
      dsimp only at I ⊢
      repeat (first | refine GD ?_ | refine NW fun _ => ?_)
      refine WL.step rfl (OP.nextMap (M := [objA r (.map es clock), blk p [.map mo] 39, outA mo (outM (mo, some r, b, c, d)), innO (S 1) b, innO (S 2) c, innO (S 3) d, F]) rfl rfl (Imp.refl _) (Ent.mem (A := objA r (.map es clock)) MM (up_objA _ _) (fun _ a => a)) (fun x hx => I.m.st.1 x hx) (Nat.le_refl _) rfl rfl (fun hdone => ?_) (fun e he hse => ?_))
      · have hf := I.done hdone
        have hcl := I.m
        rw [hf] at hcl
        repeat (first | refine GD ?_ | refine NW fun _ => ?_)
        refine blockK.hit rfl (ret0n ⟨[mtab p (forgetS S 0 u)], ⟨rfl, rfl⟩, ?_⟩)
        exact Imp.trans (Imp.closeMap hcl P1) (Imp.trans II (mtabFold p (forgetS S 0 u) (mo, some r, b, c, d) (forgetS_at S 0 u) (forgetS_ne (by decide)) (forgetS_ne (by decide)) (forgetS_ne (by decide))))
      · obtain ⟨k, hk⟩ : ∃ k : Int, e.key = .int .i64 k := by
          have h1 := I.m.keys e he
          cases hxk : e.key <;> rw [hxk] at h1 <;> simp [Go.MapKept.IsKey] at h1
          subst h1
          exact ⟨_, rfl⟩
        have hlt2 := leftN_lt he hse
        repeat (first | refine GD ?_ | refine NW fun _ => ?_)
        refine WL.step rfl (OP.entry rfl rfl (Ent.mem (A := objA it (.mapIter (some r) clock (seen.push e.born) clock)) MM (up_objA _ _) (fun _ a => a)) (Ent.mem (A := objA r (.map es clock)) MM (up_objA _ _) (fun _ a => a)) he I.m.st rfl rfl ?_)
        rw [hk]
        by_cases hku : k ≤ u
        rotate_left
        · repeat (first | refine GD ?_ | refine NW fun _ => ?_)
          exact ⟨(f, es, seen.push e.born), I.keep he hk (by omega), hlt2, ⟨rfl, rfl, rfl, rfl, trivial⟩, II⟩
        repeat (first | refine GD ?_ | refine NW fun _ => ?_)
        refine WL.step rfl (OP.callRO rfl rfl (tof_ro p (mo, some r, b, c, d) 0) (Ent.and (Ent.whole (T := 39) MM) (Ent.mem (A := outA mo (outM (mo, some r, b, c, d))) MM (up_outA _ _) (fun _ a => a))) rfl rfl ?_)
        rw [show refAt (mo, some r, b, c, d) 0 = (some r) from rfl]
        repeat (first | refine GD ?_ | refine NW fun _ => ?_)
        refine WL.step rfl (OP.delete rfl rfl rfl rfl rfl rfl rfl (show Imp _ (objA r (.map es clock) :: _) from P1) I.m rfl (fun es' hm' hsub => ?_))
        repeat (first | refine GD ?_ | refine NW fun _ => ?_)
        exact ⟨(_, es', seen.push e.born), I.del he hk hku hm' hsub, Nat.lt_of_le_of_lt (leftN_le hm'.st.2.1 hsub) hlt2, ⟨rfl, rfl, rfl, rfl, trivial⟩, II⟩
  · cases b with
    | none =>
      refine WL.fact (Ent.mem (A := innO (S 1) none) MM (up_innO _ _) (fun _ x => x)) (fun hfl => ?_)
      repeat (first | refine GD ?_ | refine NW fun _ => ?_)
      refine WL.step rfl (OP.callRO rfl rfl (tof_ro p (mo, a, none, c, d) 1) (Ent.and (Ent.whole (T := 39) MM) (Ent.mem (A := outA mo (outM (mo, a, none, c, d))) MM (up_outA _ _) (fun _ a => a))) rfl rfl ?_)
      rw [show refAt (mo, a, none, c, d) 1 = none from rfl]
      refine WL.step rfl (OP.rangeNil rfl rfl rfl rfl rfl rfl (fun it => ?_))
      repeat (first | refine GD ?_ | refine NW fun _ => ?_)
      refine WC.loop (σ := Unit) (fun _ => True)
        (fun _ => [(10, .val (.pointer (some ⟨it, 0, none⟩)))])
        (fun _ => [objA it (.mapIter none 0 #[] 0), blk p [.map mo] 39, outA mo (outM (mo, a, none, c, d)), innO (S 0) a, innO (S 1) none, innO (S 2) c, innO (S 3) d, F]) (fun _ => 0) () trivial ⟨rfl, trivial⟩ II ?_
      rintro ⟨⟩ _
      repeat (first | refine GD ?_ | refine NW fun _ => ?_)
      refine WL.step rfl (OP.nextNil rfl rfl (Ent.mem (A := objA it (.mapIter none 0 #[] 0)) MM (up_objA _ _) (fun _ a => a)) rfl rfl ?_)
      repeat (first | refine GD ?_ | refine NW fun _ => ?_)
      refine blockK.hit rfl (ret0n ⟨[mtab p (forgetS S 1 u)], ⟨rfl, rfl⟩, ?_⟩)
      exact Imp.trans II (mtabFold p (forgetS S 1 u) (mo, a, none, c, d) (forgetS_no hfl 0) (forgetS_no hfl 1) (forgetS_no hfl 2) (forgetS_no hfl 3))
    | some r =>
      rw [hi]
      repeat (first | refine GD ?_ | refine NW fun _ => ?_)
      refine WL.step rfl (OP.callRO rfl rfl (tof_ro p (mo, a, some r, c, d) 1) (Ent.and (Ent.whole (T := 39) MM) (Ent.mem (A := outA mo (outM (mo, a, some r, c, d))) MM (up_outA _ _) (fun _ a => a))) rfl rfl ?_)
      rw [show refAt (mo, a, some r, c, d) 1 = (some r) from rfl]
      refine WL.openMap (r := r) (m := setM (S 1)) P1 (fun es0 clock he0 => ?_)
      refine WL.step rfl (OP.rangeMap rfl rfl rfl rfl (Ent.mem (A := objA r (.map es0 clock)) MM (up_objA _ _) (fun _ a => a)) rfl rfl (fun it => ?_))
      repeat (first | refine GD ?_ | refine NW fun _ => ?_)
      refine WC.loop (σ := (Int → Bool) × Array MapEntry × Array Nat) (fun s => FgI (S 1) u s.1 s.2.1 clock s.2.2)
        (fun _ => [(0, .val (.pointer (some ⟨p, 0, none⟩))), (1, .val (.int .i64 1)), (2, .val (.int .i64 u)), (10, .val (.pointer (some ⟨it, 0, none⟩)))])
        (fun s => [objA it (.mapIter (some r) clock s.2.2 clock), objA r (.map s.2.1 clock), blk p [.map mo] 39, outA mo (outM (mo, a, some r, c, d)), innO (S 0) a, innO (S 2) c, innO (S 3) d, F]) (fun s => leftN s.2.1 s.2.2) (S 1, es0, #[]) ⟨he0, fun _ h => h, fun k h1 h2 => (by dsimp only at h2; rw [h1] at h2; cases h2), fun e _ h => by simp at h⟩ ⟨rfl, rfl, rfl, rfl, trivial⟩ II ?_
      rintro ⟨f, es, seen⟩ I
      dsimp only at I ⊢
      repeat (first | refine GD ?_ | refine NW fun _ => ?_)
      refine WL.step rfl (OP.nextMap (M := [objA r (.map es clock), blk p [.map mo] 39, outA mo (outM (mo, a, some r, c, d)), innO (S 0) a, innO (S 2) c, innO (S 3) d, F]) rfl rfl (Imp.refl _) (Ent.mem (A := objA r (.map es clock)) MM (up_objA _ _) (fun _ a => a)) (fun x hx => I.m.st.1 x hx) (Nat.le_refl _) rfl rfl (fun hdone => ?_) (fun e he hse => ?_))
      · have hf := I.done hdone
        have hcl := I.m
        rw [hf] at hcl
        repeat (first | refine GD ?_ | refine NW fun _ => ?_)
        refine blockK.hit rfl (ret0n ⟨[mtab p (forgetS S 1 u)], ⟨rfl, rfl⟩, ?_⟩)
        exact Imp.trans (Imp.closeMap hcl P1) (Imp.trans II (mtabFold p (forgetS S 1 u) (mo, a, some r, c, d) (forgetS_ne (by decide)) (forgetS_at S 1 u) (forgetS_ne (by decide)) (forgetS_ne (by decide))))
      · obtain ⟨k, hk⟩ : ∃ k : Int, e.key = .int .i64 k := by
          have h1 := I.m.keys e he
          cases hxk : e.key <;> rw [hxk] at h1 <;> simp [Go.MapKept.IsKey] at h1
          subst h1
          exact ⟨_, rfl⟩
        have hlt2 := leftN_lt he hse
        repeat (first | refine GD ?_ | refine NW fun _ => ?_)
        refine WL.step rfl (OP.entry rfl rfl (Ent.mem (A := objA it (.mapIter (some r) clock (seen.push e.born) clock)) MM (up_objA _ _) (fun _ a => a)) (Ent.mem (A := objA r (.map es clock)) MM (up_objA _ _) (fun _ a => a)) he I.m.st rfl rfl ?_)
        rw [hk]
        by_cases hku : k ≤ u
        rotate_left
        · repeat (first | refine GD ?_ | refine NW fun _ => ?_)
          exact ⟨(f, es, seen.push e.born), I.keep he hk (by omega), hlt2, ⟨rfl, rfl, rfl, rfl, trivial⟩, II⟩
        repeat (first | refine GD ?_ | refine NW fun _ => ?_)
        refine WL.step rfl (OP.callRO rfl rfl (tof_ro p (mo, a, some r, c, d) 1) (Ent.and (Ent.whole (T := 39) MM) (Ent.mem (A := outA mo (outM (mo, a, some r, c, d))) MM (up_outA _ _) (fun _ a => a))) rfl rfl ?_)
        rw [show refAt (mo, a, some r, c, d) 1 = (some r) from rfl]
        repeat (first | refine GD ?_ | refine NW fun _ => ?_)
        refine WL.step rfl (OP.delete rfl rfl rfl rfl rfl rfl rfl (show Imp _ (objA r (.map es clock) :: _) from P1) I.m rfl (fun es' hm' hsub => ?_))
        repeat (first | refine GD ?_ | refine NW fun _ => ?_)
        exact ⟨(_, es', seen.push e.born), I.del he hk hku hm' hsub, Nat.lt_of_le_of_lt (leftN_le hm'.st.2.1 hsub) hlt2, ⟨rfl, rfl, rfl, rfl, trivial⟩, II⟩
  · cases c with
    | none =>
      refine WL.fact (Ent.mem (A := innO (S 2) none) MM (up_innO _ _) (fun _ x => x)) (fun hfl => ?_)
      repeat (first | refine GD ?_ | refine NW fun _ => ?_)
      refine WL.step rfl (OP.callRO rfl rfl (tof_ro p (mo, a, b, none, d) 2) (Ent.and (Ent.whole (T := 39) MM) (Ent.mem (A := outA mo (outM (mo, a, b, none, d))) MM (up_outA _ _) (fun _ a => a))) rfl rfl ?_)
      rw [show refAt (mo, a, b, none, d) 2 = none from rfl]
      refine WL.step rfl (OP.rangeNil rfl rfl rfl rfl rfl rfl (fun it => ?_))
      repeat (first | refine GD ?_ | refine NW fun _ => ?_)
      refine WC.loop (σ := Unit) (fun _ => True)
        (fun _ => [(10, .val (.pointer (some ⟨it, 0, none⟩)))])
        (fun _ => [objA it (.mapIter none 0 #[] 0), blk p [.map mo] 39, outA mo (outM (mo, a, b, none, d)), innO (S 0) a, innO (S 1) b, innO (S 2) none, innO (S 3) d, F]) (fun _ => 0) () trivial ⟨rfl, trivial⟩ II ?_
      rintro ⟨⟩ _
      repeat (first | refine GD ?_ | refine NW fun _ => ?_)
      refine WL.step rfl (OP.nextNil rfl rfl (Ent.mem (A := objA it (.mapIter none 0 #[] 0)) MM (up_objA _ _) (fun _ a => a)) rfl rfl ?_)
      repeat (first | refine GD ?_ | refine NW fun _ => ?_)
      refine blockK.hit rfl (ret0n ⟨[mtab p (forgetS S 2 u)], ⟨rfl, rfl⟩, ?_⟩)
      exact Imp.trans II (mtabFold p (forgetS S 2 u) (mo, a, b, none, d) (forgetS_no hfl 0) (forgetS_no hfl 1) (forgetS_no hfl 2) (forgetS_no hfl 3))
    | some r =>
      rw [hi]
      repeat (first | refine GD ?_ | refine NW fun _ => ?_)
      refine WL.step rfl (OP.callRO rfl rfl (tof_ro p (mo, a, b, some r, d) 2) (Ent.and (Ent.whole (T := 39) MM) (Ent.mem (A := outA mo (outM (mo, a, b, some r, d))) MM (up_outA _ _) (fun _ a => a))) rfl rfl ?_)
      rw [show refAt (mo, a, b, some r, d) 2 = (some r) from rfl]
      refine WL.openMap (r := r) (m := setM (S 2)) P1 (fun es0 clock he0 => ?_)
      refine WL.step rfl (OP.rangeMap rfl rfl rfl rfl (Ent.mem (A := objA r (.map es0 clock)) MM (up_objA _ _) (fun _ a => a)) rfl rfl (fun it => ?_))
      repeat (first | refine GD ?_ | refine NW fun _ => ?_)
      refine WC.loop (σ := (Int → Bool) × Array MapEntry × Array Nat) (fun s => FgI (S 2) u s.1 s.2.1 clock s.2.2)
        (fun _ => [(0, .val (.pointer (some ⟨p, 0, none⟩))), (1, .val (.int .i64 2)), (2, .val (.int .i64 u)), (10, .val (.pointer (some ⟨it, 0, none⟩)))])
        (fun s => [objA it (.mapIter (some r) clock s.2.2 clock), objA r (.map s.2.1 clock), blk p [.map mo] 39, outA mo (outM (mo, a, b, some r, d)), innO (S 0) a, innO (S 1) b, innO (S 3) d, F]) (fun s => leftN s.2.1 s.2.2) (S 2, es0, #[]) ⟨he0, fun _ h => h, fun k h1 h2 => (by dsimp only at h2; rw [h1] at h2; cases h2), fun e _ h => by simp at h⟩ ⟨rfl, rfl, rfl, rfl, trivial⟩ II ?_
      rintro ⟨f, es, seen⟩ I
      dsimp only at I ⊢
      repeat (first | refine GD ?_ | refine NW fun _ => ?_)
      refine WL.step rfl (OP.nextMap (M := [objA r (.map es clock), blk p [.map mo] 39, outA mo (outM (mo, a, b, some r, d)), innO (S 0) a, innO (S 1) b, innO (S 3) d, F]) rfl rfl (Imp.refl _) (Ent.mem (A := objA r (.map es clock)) MM (up_objA _ _) (fun _ a => a)) (fun x hx => I.m.st.1 x hx) (Nat.le_refl _) rfl rfl (fun hdone => ?_) (fun e he hse => ?_))
      · have hf := I.done hdone
        have hcl := I.m
        rw [hf] at hcl
        repeat (first | refine GD ?_ | refine NW fun _ => ?_)
        refine blockK.hit rfl (ret0n ⟨[mtab p (forgetS S 2 u)], ⟨rfl, rfl⟩, ?_⟩)
        exact Imp.trans (Imp.closeMap hcl P1) (Imp.trans II (mtabFold p (forgetS S 2 u) (mo, a, b, some r, d) (forgetS_ne (by decide)) (forgetS_ne (by decide)) (forgetS_at S 2 u) (forgetS_ne (by decide))))
      · obtain ⟨k, hk⟩ : ∃ k : Int, e.key = .int .i64 k := by
          have h1 := I.m.keys e he
          cases hxk : e.key <;> rw [hxk] at h1 <;> simp [Go.MapKept.IsKey] at h1
          subst h1
          exact ⟨_, rfl⟩
        have hlt2 := leftN_lt he hse
        repeat (first | refine GD ?_ | refine NW fun _ => ?_)
        refine WL.step rfl (OP.entry rfl rfl (Ent.mem (A := objA it (.mapIter (some r) clock (seen.push e.born) clock)) MM (up_objA _ _) (fun _ a => a)) (Ent.mem (A := objA r (.map es clock)) MM (up_objA _ _) (fun _ a => a)) he I.m.st rfl rfl ?_)
        rw [hk]
        by_cases hku : k ≤ u
        rotate_left
        · repeat (first | refine GD ?_ | refine NW fun _ => ?_)
          exact ⟨(f, es, seen.push e.born), I.keep he hk (by omega), hlt2, ⟨rfl, rfl, rfl, rfl, trivial⟩, II⟩
        repeat (first | refine GD ?_ | refine NW fun _ => ?_)
        refine WL.step rfl (OP.callRO rfl rfl (tof_ro p (mo, a, b, some r, d) 2) (Ent.and (Ent.whole (T := 39) MM) (Ent.mem (A := outA mo (outM (mo, a, b, some r, d))) MM (up_outA _ _) (fun _ a => a))) rfl rfl ?_)
        rw [show refAt (mo, a, b, some r, d) 2 = (some r) from rfl]
        repeat (first | refine GD ?_ | refine NW fun _ => ?_)
        refine WL.step rfl (OP.delete rfl rfl rfl rfl rfl rfl rfl (show Imp _ (objA r (.map es clock) :: _) from P1) I.m rfl (fun es' hm' hsub => ?_))
        repeat (first | refine GD ?_ | refine NW fun _ => ?_)
        exact ⟨(_, es', seen.push e.born), I.del he hk hku hm' hsub, Nat.lt_of_le_of_lt (leftN_le hm'.st.2.1 hsub) hlt2, ⟨rfl, rfl, rfl, rfl, trivial⟩, II⟩
  · cases d with
    | none =>
      refine WL.fact (Ent.mem (A := innO (S 3) none) MM (up_innO _ _) (fun _ x => x)) (fun hfl => ?_)
      repeat (first | refine GD ?_ | refine NW fun _ => ?_)
      refine WL.step rfl (OP.callRO rfl rfl (tof_ro p (mo, a, b, c, none) 3) (Ent.and (Ent.whole (T := 39) MM) (Ent.mem (A := outA mo (outM (mo, a, b, c, none))) MM (up_outA _ _) (fun _ a => a))) rfl rfl ?_)
      rw [show refAt (mo, a, b, c, none) 3 = none from rfl]
      refine WL.step rfl (OP.rangeNil rfl rfl rfl rfl rfl rfl (fun it => ?_))
      repeat (first | refine GD ?_ | refine NW fun _ => ?_)
      refine WC.loop (σ := Unit) (fun _ => True)
        (fun _ => [(10, .val (.pointer (some ⟨it, 0, none⟩)))])
        (fun _ => [objA it (.mapIter none 0 #[] 0), blk p [.map mo] 39, outA mo (outM (mo, a, b, c, none)), innO (S 0) a, innO (S 1) b, innO (S 2) c, innO (S 3) none, F]) (fun _ => 0) () trivial ⟨rfl, trivial⟩ II ?_
      rintro ⟨⟩ _
      repeat (first | refine GD ?_ | refine NW fun _ => ?_)
      refine WL.step rfl (OP.nextNil rfl rfl (Ent.mem (A := objA it (.mapIter none 0 #[] 0)) MM (up_objA _ _) (fun _ a => a)) rfl rfl ?_)
      repeat (first | refine GD ?_ | refine NW fun _ => ?_)
      refine blockK.hit rfl (ret0n ⟨[mtab p (forgetS S 3 u)], ⟨rfl, rfl⟩, ?_⟩)
      exact Imp.trans II (mtabFold p (forgetS S 3 u) (mo, a, b, c, none) (forgetS_no hfl 0) (forgetS_no hfl 1) (forgetS_no hfl 2) (forgetS_no hfl 3))
    | some r =>
      rw [hi]
      repeat (first | refine GD ?_ | refine NW fun _ => ?_)
      refine WL.step rfl (OP.callRO rfl rfl (tof_ro p (mo, a, b, c, some r) 3) (Ent.and (Ent.whole (T := 39) MM) (Ent.mem (A := outA mo (outM (mo, a, b, c, some r))) MM (up_outA _ _) (fun _ a => a))) rfl rfl ?_)
      rw [show refAt (mo, a, b, c, some r) 3 = (some r) from rfl]
      refine WL.openMap (r := r) (m := setM (S 3)) P1 (fun es0 clock he0 => ?_)
      refine WL.step rfl (OP.rangeMap rfl rfl rfl rfl (Ent.mem (A := objA r (.map es0 clock)) MM (up_objA _ _) (fun _ a => a)) rfl rfl (fun it => ?_))
      repeat (first | refine GD ?_ | refine NW fun _ => ?_)
      refine WC.loop (σ := (Int → Bool) × Array MapEntry × Array Nat) (fun s => FgI (S 3) u s.1 s.2.1 clock s.2.2)
        (fun _ => [(0, .val (.pointer (some ⟨p, 0, none⟩))), (1, .val (.int .i64 3)), (2, .val (.int .i64 u)), (10, .val (.pointer (some ⟨it, 0, none⟩)))])
        (fun s => [objA it (.mapIter (some r) clock s.2.2 clock), objA r (.map s.2.1 clock), blk p [.map mo] 39, outA mo (outM (mo, a, b, c, some r)), innO (S 0) a, innO (S 1) b, innO (S 2) c, F]) (fun s => leftN s.2.1 s.2.2) (S 3, es0, #[]) ⟨he0, fun _ h => h, fun k h1 h2 => (by dsimp only at h2; rw [h1] at h2; cases h2), fun e _ h => by simp at h⟩ ⟨rfl, rfl, rfl, rfl, trivial⟩ II ?_
      rintro ⟨f, es, seen⟩ I
      dsimp only at I ⊢
      repeat (first | refine GD ?_ | refine NW fun _ => ?_)
      refine WL.step rfl (OP.nextMap (M := [objA r (.map es clock), blk p [.map mo] 39, outA mo (outM (mo, a, b, c, some r)), innO (S 0) a, innO (S 1) b, innO (S 2) c, F]) rfl rfl (Imp.refl _) (Ent.mem (A := objA r (.map es clock)) MM (up_objA _ _) (fun _ a => a)) (fun x hx => I.m.st.1 x hx) (Nat.le_refl _) rfl rfl (fun hdone => ?_) (fun e he hse => ?_))
      · have hf := I.done hdone
        have hcl := I.m
        rw [hf] at hcl
        repeat (first | refine GD ?_ | refine NW fun _ => ?_)
        refine blockK.hit rfl (ret0n ⟨[mtab p (forgetS S 3 u)], ⟨rfl, rfl⟩, ?_⟩)
        exact Imp.trans (Imp.closeMap hcl P1) (Imp.trans II (mtabFold p (forgetS S 3 u) (mo, a, b, c, some r) (forgetS_ne (by decide)) (forgetS_ne (by decide)) (forgetS_ne (by decide)) (forgetS_at S 3 u)))
      · obtain ⟨k, hk⟩ : ∃ k : Int, e.key = .int .i64 k := by
          have h1 := I.m.keys e he
          cases hxk : e.key <;> rw [hxk] at h1 <;> simp [Go.MapKept.IsKey] at h1
          subst h1
          exact ⟨_, rfl⟩
        have hlt2 := leftN_lt he hse
        repeat (first | refine GD ?_ | refine NW fun _ => ?_)
        refine WL.step rfl (OP.entry rfl rfl (Ent.mem (A := objA it (.mapIter (some r) clock (seen.push e.born) clock)) MM (up_objA _ _) (fun _ a => a)) (Ent.mem (A := objA r (.map es clock)) MM (up_objA _ _) (fun _ a => a)) he I.m.st rfl rfl ?_)
        rw [hk]
        by_cases hku : k ≤ u
        rotate_left
        · repeat (first | refine GD ?_ | refine NW fun _ => ?_)
          exact ⟨(f, es, seen.push e.born), I.keep he hk (by omega), hlt2, ⟨rfl, rfl, rfl, rfl, trivial⟩, II⟩
        repeat (first | refine GD ?_ | refine NW fun _ => ?_)
        refine WL.step rfl (OP.callRO rfl rfl (tof_ro p (mo, a, b, c, some r) 3) (Ent.and (Ent.whole (T := 39) MM) (Ent.mem (A := outA mo (outM (mo, a, b, c, some r))) MM (up_outA _ _) (fun _ a => a))) rfl rfl ?_)
        rw [show refAt (mo, a, b, c, some r) 3 = (some r) from rfl]
        repeat (first | refine GD ?_ | refine NW fun _ => ?_)
        refine WL.step rfl (OP.delete rfl rfl rfl rfl rfl rfl rfl (show Imp _ (objA r (.map es clock) :: _) from P1) I.m rfl (fun es' hm' hsub => ?_))
        repeat (first | refine GD ?_ | refine NW fun _ => ?_)
        exact ⟨(_, es', seen.push e.born), I.del he hk hku hm' hsub, Nat.lt_of_le_of_lt (leftN_le hm'.st.2.1 hsub) hlt2, ⟨rfl, rfl, rfl, rfl, trivial⟩, II⟩
end Go.Proofs.YtacgheafbkfciaaDoor
/- Contracts of functions of the given program, and plain laws on what they compute: parts of the proofs of laws. -/

namespace Go.Proofs.YtacgheafbkfciaaDoor
open Go Go.GL

/-! what the laws of marks are made of -/
abbrev MOp := Int × Int × Int
def encM (o : MOp) : List Value := [.int .i64 o.1, .int .i64 o.2.1, .int .i64 o.2.2]
theorem encM_len (o : MOp) : (encM o).length = 3 := rfl
theorem mop_of {x : List Value} (h : LfsOk [.int .i64, .int .i64, .int .i64] x) : ∃ o : MOp, x = encM o ∧ (Lit.int .i64 o.2.2).wf = true := by
  obtain ⟨k, s, rfl, _, h⟩ := h.int
  obtain ⟨n, s, rfl, _, h⟩ := h.int
  obtain ⟨m, s, rfl, w2, h⟩ := h.int
  rw [h.nil]
  exact ⟨(k, n, m), rfl, w2⟩
def noS : Int → Int → Bool := fun _ _ => false
theorem Imp.pureA {L : List Assn} {p : Prop} (h : p) : Imp L ((fun _ => p) :: L) := fun k s => ⟨Hp.empty, k, fun _ => .inl rfl, by funext b; simp [Hp.join, Hp.empty], h, s⟩
theorem mtabNil (p : Nat) {N : List Assn} : Imp (blk p [.map none] 39 :: N) (mtab p noS :: N) := by
  refine Imp.trans ?_ (mtabFold p noS (none, none, none, none, none) rfl rfl rfl rfl)
  refine Imp.cons ?_
  refine Imp.trans (Imp.pureA (p := ∀ k, outM (none, none, none, none, none) k = none) (fun k => by unfold outM refAt refV; simp)) (Imp.cons ?_)
  exact Imp.trans (Imp.pureA (p := ∀ m, noS 0 m = false) (fun _ => rfl)) (Imp.cons (Imp.trans (Imp.pureA (p := ∀ m, noS 1 m = false) (fun _ => rfl)) (Imp.cons (Imp.trans (Imp.pureA (p := ∀ m, noS 2 m = false) (fun _ => rfl)) (Imp.cons (Imp.pureA (p := ∀ m, noS 3 m = false) (fun _ => rfl)))))))
def stepS (S : Int → Int → Bool) (v m : Int) : Int → Int → Bool := match putE S v m with
  | .ok S' => S'
  | .error _ => S
def playS (l : List MOp) : Int → Int → Bool := l.foldl (fun S o => stepS S o.2.1 o.2.2) noS
theorem playS_snoc (l : List MOp) (o : MOp) : playS (l ++ [o]) = stepS (playS l) o.2.1 o.2.2 := by unfold playS; rw [List.foldl_append]; rfl
theorem putE_cases (S : Int → Int → Bool) (v m : Int) : (∃ c, putE S v m = .error c) ∨ (0 ≤ v ∧ v < 4 ∧ 1 ≤ m ∧ putE S v m = .ok (putS S v m)) := by
  unfold putE
  by_cases h : 0 ≤ v ∧ v < 4
  · rw [if_neg (by omega)]
    by_cases hm : m < 1
    · rw [if_pos hm]; exact .inl ⟨_, rfl⟩
    · rw [if_neg hm]; exact .inr ⟨h.1, h.2, by omega, rfl⟩
  · rw [if_pos h]; exact .inl ⟨_, rfl⟩
theorem stepS_eq (S : Int → Int → Bool) (v m a b : Int) : stepS S v m a b = (S a b || decide (a = v ∧ b = m ∧ 0 ≤ v ∧ v < 4 ∧ 1 ≤ m)) := by
  unfold stepS
  rcases putE_cases S v m with ⟨c, h⟩ | ⟨h1, h2, h3, h⟩
  · rw [h]
    have : ¬ (a = v ∧ b = m ∧ 0 ≤ v ∧ v < 4 ∧ 1 ≤ m) := fun ⟨_, _, h1, h2, h3⟩ => by
      unfold putE at h
      rw [if_neg (by omega), if_neg (by omega)] at h
      cases h
    simp [this]
  · rw [h]
    show putS S v m a b = _
    unfold putS
    by_cases ha : a = v
    · subst ha
      rw [if_pos rfl]
      by_cases hb : b = m
      · subst hb; simp [h1, h2, h3]
      · simp [hb]
    · simp [ha]
theorem Few.none (l : List Int) (h : l.length ≤ 100000) : Few noS l := ⟨fun _ _ h => (nomatch h), fun _ _ h => (nomatch h), h⟩
theorem Few.step {S : Int → Int → Bool} {l : List Int} (F : Few S l) {v m : Int} (hm : m ∈ l) (hw : (Lit.int .i64 m).wf = true) : Few (stepS S v m) l := by
  refine ⟨fun a b h => ?_, fun a b h => ?_, F.len⟩
  · rw [stepS_eq, Bool.or_eq_true, decide_eq_true_eq] at h
    rcases h with h | h
    · exact F.wf a b h
    · rw [h.2.1]; exact hw
  · rw [stepS_eq, Bool.or_eq_true, decide_eq_true_eq] at h
    rcases h with h | h
    · exact F.mem a b h
    · rw [h.2.1]; exact hm
theorem Few.mono {S : Int → Int → Bool} {l l' : List Int} (F : Few S l) (h : ∀ x ∈ l, x ∈ l') (hl : l'.length ≤ 100000) : Few S l' := ⟨F.wf, fun v k hk => h k (F.mem v k hk), hl⟩
theorem Few.sub {S S' : Int → Int → Bool} {l : List Int} (F : Few S l) (h : ∀ v k, S' v k = true → S v k = true) : Few S' l := ⟨fun v k hk => F.wf v k (h v k hk), fun v k hk => F.mem v k (h v k hk), F.len⟩
def keysM (l : List MOp) : List Int := l.map (fun o => o.2.2)
theorem keysM_mem {l : List MOp} {k : Nat} (h : k < l.length) : l[k].2.2 ∈ keysM l := List.mem_map.2 ⟨_, List.getElem_mem h, rfl⟩
def Mput1 (p : Nat) (S : Int → Int → Bool) (v m : Int) (M : List Assn) : Prop := ∃ E, M = E ++ [mtab p (stepS S v m)]
theorem MPut.one {p : Nat} {S : Int → Int → Bool} {v m : Int} {x : Value} {M : List Assn} (h : MPut p S v m x M) : Mput1 p S v m M := by
  unfold MPut at h
  unfold Mput1 stepS
  cases he : putE S v m with
  | ok S' => rw [he] at h; exact ⟨[], h.2⟩
  | error c =>
    rw [he] at h
    obtain ⟨E, _, h2⟩ := h
    exact ⟨E, h2⟩
set_option maxHeartbeats 1000000 in
set_option maxRecDepth 10000 in
theorem msame_ro (a1 a2 : Option Addr) (n1 c1 n2 c2 : Nat) (l1 l2 : List Int) (h1 : n1 = l1.length) (h2 : n2 = l2.length) (hs : n1 < 1000000) : RO G 11 [.slice a1 n1 c1, .slice a2 n2 c2] (fun h => readI a1 n1 l1 h ∧ readI a2 n2 l2 h) (.bool (decide (l1 = l2))) := by
  refine RO.enter Tryd.func11 rfl (by decide) rfl Tryd.ntmps11 rfl (fun A hu hA => ?_) (up_and (up_readS _ _ _ _) (up_readS _ _ _ _))
  have hE1 : ∀ {L}, A ∈ L → Ent L (readI a1 n1 l1) := fun m => Ent.mem m hu fun k x => (hA k x).1
  have hE2 : ∀ {L}, A ∈ L → Ent L (readI a2 n2 l2) := fun m => Ent.mem m hu fun k x => (hA k x).2
  by_cases hne : n1 = n2
  rotate_left
  · have : l1 ≠ l2 := fun e => hne (by rw [h1, h2, e])
    repeat (first | refine GD ?_ | refine NW fun _ => ?_)
    exact ret1 rfl ⟨by simp [this], MM⟩
  subst hne
  repeat (first | refine GD ?_ | refine NW fun _ => ?_)
  refine WC.loop (σ := Nat) (fun k => k ≤ n1 ∧ ∀ j, j < k → l1[j]? = l2[j]?)
    (fun k => [(0, .val (.slice a1 n1 c1)), (1, .val (.slice a2 n1 c2)), (12, .val (.int .i64 n1)), (13, .val (.int .i64 k))])
    (fun k => [A]) (fun k => n1 - k) 0 ⟨Nat.zero_le _, fun j hj => by omega⟩ ⟨rfl, rfl, rfl, rfl, trivial⟩ (Imp.refl _) ?_
  rintro k ⟨hk, hall⟩
  by_cases hlt : k < n1
  rotate_left
  · repeat (first | refine GD ?_ | refine NW fun _ => ?_)
    refine ret1 rfl ⟨?_, MM⟩
    have : l1 = l2 := List.ext_getElem? fun i => by
      by_cases hi : i < k
      · exact hall i hi
      · rw [List.getElem?_eq_none (by omega), List.getElem?_eq_none (by omega)]
    simp [this]
  have hl1 : k < l1.length := by omega
  have hl2 : k < l2.length := by omega
  repeat (first | refine GD ?_ | refine NW fun _ => ?_)
  refine WC.fact (Ent.some (hE1 MM) (by omega)) ?_
  rintro ⟨b, off, rfl⟩
  refine WC.fact (Ent.some (hE2 MM) (by omega)) ?_
  rintro ⟨b', off', rfl⟩
  refine RD 9 9 (_) ?_
  refine WP 0 ?_
  refine WP 1 ?_
  refine WP 2 ?_
  refine VL 3 (iV l1[k]) rfl rfl rfl rfl (.inl ⟨rfl, Ent.elem (hE1 MM) rfl (int_get hl1)⟩) ?_
  refine WP 4 ?_
  refine WP 5 ?_
  refine WP 6 ?_
  refine VL 7 (iV l2[k]) rfl rfl rfl rfl (.inl ⟨rfl, Ent.elem (hE2 MM) rfl (int_get hl2)⟩) ?_
  refine WP 8 ?_
  refine DN ?_
  by_cases he : l1[k] = l2[k]
  · rw [decide_eq_true he]
    repeat (first | refine GD ?_ | refine NW fun _ => ?_)
    exact ⟨k + 1, ⟨by omega, fun j hj => by
      by_cases e : j = k
      · subst e; rw [List.getElem?_eq_getElem hl1, List.getElem?_eq_getElem hl2, he]
      · exact hall j (by omega)⟩, by omega, ⟨rfl, rfl, rfl, rfl, trivial⟩, Imp.refl _⟩
  · rw [decide_eq_false he]
    repeat (first | refine GD ?_ | refine NW fun _ => ?_)
    refine ret1 rfl ⟨?_, MM⟩
    have : l1 ≠ l2 := fun e => he (by subst e; rfl)
    simp [this]
end Go.Proofs.YtacgheafbkfciaaDoor
/- Contracts of functions of the given program, and plain laws on what they compute: parts of the proofs of laws. -/

namespace Go.Proofs.YtacgheafbkfciaaDoor
open Go Go.GL

theorem sorted_one {f : Int → Bool} {l : List Int} {a : Int} (h : SortedOf f l) (hf : ∀ k, f k = true ↔ k = a) : l = [a] := by
  obtain ⟨h1, h2⟩ := h
  have ha : a ∈ l := (h2 a).2 ((hf a).2 rfl)
  have hall : ∀ x ∈ l, x = a := fun x hx => (hf x).1 ((h2 x).1 hx)
  match l, ha, hall, h1 with
  | [x], _, hall, _ => rw [hall x List.mem_cons_self]
  | x :: y :: r, _, hall, h1 =>
    have e1 := hall x List.mem_cons_self
    have e2 := hall y (List.mem_cons_of_mem _ List.mem_cons_self)
    have := List.rel_of_pairwise_cons h1 (List.mem_cons_self (a := y) (l := r))
    omega
set_option maxHeartbeats 4000000 in
set_option maxRecDepth 10000 in
theorem mawake_ro : RO G 5 [] (fun _ => True) (.bool true) := by
  refine RO.enter Tryd.func5 rfl (by decide) rfl Tryd.ntmps5 rfl (fun A hu hA => ?_) (fun _ _ _ h => h)
  repeat (first | refine GO ?_ | refine NW fun _ => ?_)
  rename_i p
  refine WL.imp (mtabNil p) ?_
  refine WL.step rfl (OP.call (pre := [mtab p noS]) rfl rfl (mput_ok p noS 0 2) PS rfl rfl ?_)
  intro v M h
  unfold MPut at h
  rw [show putE noS 0 2 = .ok (putS noS 0 2) from rfl] at h
  obtain ⟨rfl, rfl⟩ := h
  repeat (first | refine GO ?_ | refine NW fun _ => ?_)
  refine WL.guardT rfl rfl rfl rfl (OP.call (pre := [mtab p (putS noS 0 2)]) rfl rfl (mput_ok p _ 1 2) PS rfl rfl ?_)
  intro v M h
  unfold MPut at h
  rw [show putE (putS noS 0 2) 1 2 = .ok (putS (putS noS 0 2) 1 2) from rfl] at h
  obtain ⟨rfl, rfl⟩ := h
  have hSd : ∀ a b, putS (putS noS 0 2) 1 2 a b = true ↔ (a = 0 ∨ a = 1) ∧ b = 2 := fun a b => by
    unfold putS noS
    by_cases h1 : a = 1
    · subst h1; simp
    · by_cases h0 : a = 0
      · subst h0; simp
      · simp [h0, h1]
  generalize hS : putS (putS noS 0 2) 1 2 = S at *
  have hF : Few S [2] := ⟨fun a b h => (by rw [((hSd a b).1 h).2]; rfl), fun a b h => (by rw [((hSd a b).1 h).2]; exact List.mem_cons_self), by decide⟩
  have hr0 : ∀ k, rowS S 0 k = true ↔ k = 2 := fun k => by
    unfold rowS
    rw [if_pos (by decide), hSd]; simp
  repeat (first | refine GO ?_ | refine NW fun _ => ?_)
  refine WL.guardT rfl rfl rfl rfl (OP.sliceLit (c := [iV 0, iV 1]) rfl rfl rfl rfl rfl rfl rfl rfl (fun b => ?_))
  refine WL.guardT rfl rfl rfl rfl (OP.callRT rfl rfl (mnewest_rt p S (some ⟨b, 0, none⟩) 2 2 [0, 1] rfl (by decide)) (Ent.and (Ent.mem (A := mtab p S) MM (up_mtab _ _) fun _ a => a) (Ent.own (T := 3) (cap := 2) MM)) rfl rfl ?_)
  rintro _ _ ⟨k, hk, rfl, rfl⟩
  obtain rfl : k = 2 := by
    obtain ⟨_, h2, h3⟩ := hk
    have hl2 : lacksS S 2 [0, 1] = [] := by
      unfold lacksS
      rw [List.filter_eq_nil_iff]
      intro v hv
      have hv2 : v = 0 ∨ v = 1 := by simpa using hv
      have : rowS S v 2 = true := by
        unfold rowS
        rw [if_pos (by omega), hSd]
        exact ⟨hv2, rfl⟩
      simp [this]
    have := h3 2 (by decide) (by decide) hl2
    rcases h2 with h2 | ⟨_, h2⟩
    · omega
    · exact (hr0 k).1 (lacks_head h2 List.mem_cons_self)
  repeat (first | refine GO ?_ | refine NW fun _ => ?_)
  refine WL.guardT rfl rfl rfl rfl (OP.callRT rfl rfl (mof_rt p S 0 hF) (Ent.mem (A := mtab p S) MM (up_mtab _ _) fun _ a => a) rfl rfl ?_)
  rintro _ _ ⟨a, cap, l, hl, rfl, rfl⟩
  obtain rfl : l = [2] := sorted_one hl hr0
  repeat (first | refine GO ?_ | refine NW fun _ => ?_)
  exact ret1 rfl ⟨rfl, MM⟩
end Go.Proofs.YtacgheafbkfciaaDoor
