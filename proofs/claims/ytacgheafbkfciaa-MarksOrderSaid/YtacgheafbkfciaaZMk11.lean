/- Contracts of functions of the given program, and plain laws: parts of the proofs of laws. -/
import Derived.Test.YtacgheafbkfciaaZMk7
import Derived.Test.YtacgheafbkfciaaZMk10
/- Contracts of functions of the given program, and plain laws on what they compute: parts of the proofs of laws. -/

namespace Go.Proofs.Ytacgheafbkfciaa
open Go Go.GL

theorem RO.pre {G : Ctx} {f : FuncId} {vs : List Value} {R R' : Assn} {v : Value} (h : RO G f vs R' v) (i : ∀ k, R k → R' k) : RO G f vs R v := ⟨h.enters, fun w hr => h.calls w (i _ hr)⟩
theorem RT.pre {G : Ctx} {f : FuncId} {vs : List Value} {R R' : Assn} {p : Value → List Assn → Prop} (h : RT G f vs R' p) (i : ∀ k, R k → R' k) : RT G f vs R p := ⟨h.enters, fun M w he hs => h.calls M w (fun k s => i k (he k s)) hs⟩
theorem one_star {A : Assn} {k : Hp} (h : A k) : stars [A] k := ⟨k, Hp.empty, fun _ => .inr rfl, by funext b; simp [Hp.join, Hp.empty], h, trivial⟩
theorem star_one {A : Assn} (hu : Up A) {k : Hp} (h : stars [A] k) : A k := stars_mem List.mem_cons_self hu h
def readI (a : Option Addr) (n : Nat) (l : List Int) : Assn := readS a n 1 (l.map iV)
theorem int_get {l : List Int} {k : Nat} (h : k < l.length) : (l.map iV)[k * 1]? = some (iV l[k]) := by simp [h]
set_option maxHeartbeats 2000000 in
set_option maxRecDepth 10000 in
theorem mlacks_rt (p : Nat) (S : Int → Int → Bool) (mark : Int) (a : Option Addr) (n c : Nat) (vols : List Int) (hn : n = vols.length) (hs : n < 100000) :
    RT G 13 [.pointer (some ⟨p, 0, none⟩), .int .i64 mark, .slice a n c] (fun h => mtab p S h ∧ readI a n vols h) (IntsPost (lacksS S mark vols)) := by
  refine RT.pre (R' := exA (fun x : Refs => [fun h => stars (tabL p S x) h ∧ readI a n vols h])) ?_ (fun k ⟨⟨x, h1⟩, h2⟩ => ⟨x, one_star ⟨h1, h2⟩⟩)
  refine RT.enterEx Try.func13 rfl (by decide) rfl Try.ntmps13 rfl (fun x A hu hA0 => ?_)
  have hA1 : ∀ k, A k → stars (tabL p S x) k ∧ readI a n vols k := fun k h => star_one (up_and (up_stars _) (up_readS _ _ _ _)) (hA0 k h)
  have hA : ∀ k, A k → stars (tabL p S x) k := fun k h => (hA1 k h).1
  have hV : ∀ {L}, A ∈ L → Ent L (readS a n 1 (vols.map iV)) := fun m => Ent.mem m hu fun k h => (hA1 k h).2
  repeat (first | refine GD ?_ | refine NW fun _ => ?_)
  refine WC.imp (Imp.nilS 3 1) ?_
  refine WC.loop (σ := Nat × Option Addr × Nat) (fun s => s.1 ≤ n)
    (fun s => [(0, .val (.pointer (some ⟨p, 0, none⟩))), (1, .val (.int .i64 mark)), (7, .val (.slice s.2.1 (lacksS S mark (vols.take s.1)).length s.2.2)), (10, .val (.slice a n c)), (11, .val (.int .i64 n)), (12, .val (.int .i64 s.1))])
    (fun s => [ownS s.2.1 (lacksS S mark (vols.take s.1)).length s.2.2 3 1 ((lacksS S mark (vols.take s.1)).map iV), A]) (fun s => n - s.1) (0, none, 0) (Nat.zero_le _) ⟨rfl, rfl, rfl, rfl, rfl, rfl, trivial⟩ (Imp.refl _) ?_
  rintro ⟨k, a7, cap⟩ hk
  dsimp only at hk ⊢
  by_cases hlt : k < n
  rotate_left
  · have he : k = vols.length := by omega
    subst he
    rw [List.take_length]
    repeat (first | refine GD ?_ | refine NW fun _ => ?_)
    exact ret1 rfl ⟨_, ⟨a7, cap, rfl, rfl⟩, Imp.refl _⟩
  have hlk : k < vols.length := by omega
  have hsn : lacksS S mark (vols.take (k + 1)) = if rowS S vols[k] mark = true then lacksS S mark (vols.take k) else lacksS S mark (vols.take k) ++ [vols[k]] := by
    rw [← List.take_append_getElem hlk, lacksS_snoc]
  have hll : (lacksS S mark (vols.take k)).length ≤ k := Nat.le_trans (List.length_filter_le _ _) (by rw [List.length_take]; omega)
  refine WC.fact (Ent.some (hV MM) (by omega)) ?_
  rintro ⟨b, off, hab⟩
  have hel : ∀ {L}, A ∈ L → Ent L (cellAt b (off + k * 1) (iV vols[k])) := fun m => Ent.elem (hV m) hab (int_get hlk)
  rw [hab]
  generalize hvk : vols[k] = v at *
  generalize lacksS S mark (vols.take k) = out at *
  repeat (first | refine GD ?_ | refine NW fun _ => ?_)
  refine WL.step rfl (OP.load1 (v := .int .i64 v) rfl rfl rfl rfl (hel MM) rfl rfl ?_)
  repeat (first | refine GD ?_ | refine NW fun _ => ?_)
  refine WL.step rfl (OP.callRO rfl rfl (tof_ro p x v) (tab_of hu hA MM) rfl rfl ?_)
  have hin : ∀ {L}, A ∈ L → Ent L (innO (rowS S v) (refAt x v)) := fun m => tab_inn hu hA m v
  have hl1 : (out ++ [v]).length = out.length + 1 := by simp
  cases href : refAt x v with
  | none =>
    rw [href] at hin
    repeat (first | refine GD ?_ | refine NW fun _ => ?_)
    refine WL.fact (hin MM) (fun hz => ?_)
    refine WL.step rfl (OP.lookupNil (z := .bool false) rfl rfl rfl rfl rfl rfl rfl rfl rfl rfl rfl ?_)
    have hr := hz mark
    rw [hr, if_neg (by decide)] at hsn
    repeat (first | refine GD ?_ | refine NW fun _ => ?_)
    refine WL.step rfl (OP.append (ds := [iV v]) rfl rfl rfl rfl rfl rfl rfl rfl rfl P1 (Ent.own MM) rfl (by omega) (by omega) rfl rfl (fun a' cap' => ?_))
    repeat (first | refine GD ?_ | refine NW fun _ => ?_)
    refine ⟨(k + 1, a', cap'), by dsimp only; omega, by dsimp only; omega, ⟨rfl, rfl, by dsimp only; rw [hsn, hl1]; rfl, rfl, rfl, rfl, trivial⟩, by dsimp only; rw [hsn, hl1, List.map_append]; exact II⟩
  | some r =>
    rw [href] at hin
    repeat (first | refine GD ?_ | refine NW fun _ => ?_)
    refine WL.step rfl (OP.lookup (z := .bool false) (m := setM (rowS S v)) rfl rfl rfl rfl rfl rfl rfl rfl rfl (hin MM) rfl rfl ?_)
    rw [show ((setM (rowS S v) mark).getD (.bool false) : Value) = .bool (rowS S v mark) by unfold setM; cases rowS S v mark <;> rfl]
    cases hr : rowS S v mark with
    | true =>
      rw [hr, if_pos rfl] at hsn
      repeat (first | refine GD ?_ | refine NW fun _ => ?_)
      exact ⟨(k + 1, a7, cap), by dsimp only; omega, by dsimp only; omega, ⟨rfl, rfl, by dsimp only; rw [hsn]; rfl, rfl, rfl, rfl, trivial⟩, by dsimp only; rw [hsn]; exact II⟩
    | false =>
      rw [hr, if_neg (by decide)] at hsn
      repeat (first | refine GD ?_ | refine NW fun _ => ?_)
      refine WL.step rfl (OP.append (ds := [iV v]) rfl rfl rfl rfl rfl rfl rfl rfl rfl P1 (Ent.own MM) rfl (by omega) (by omega) rfl rfl (fun a' cap' => ?_))
      repeat (first | refine GD ?_ | refine NW fun _ => ?_)
      refine ⟨(k + 1, a', cap'), by dsimp only; omega, by dsimp only; omega, ⟨rfl, rfl, by dsimp only; rw [hsn, hl1]; rfl, rfl, rfl, rfl, trivial⟩, by dsimp only; rw [hsn, hl1, List.map_append]; exact II⟩
end Go.Proofs.Ytacgheafbkfciaa
/- Contracts of functions of the given program, and plain laws on what they compute: parts of the proofs of laws. -/

namespace Go.Proofs.Ytacgheafbkfciaa
open Go Go.GL

theorem filter_lt {α : Type} {p q : α → Bool} : ∀ {l : List α}, (∀ x ∈ l, p x = true → q x = true) → (∃ x ∈ l, q x = true ∧ p x = false) → (l.filter p).length < (l.filter q).length
  | [], _, ⟨_, hx, _⟩ => by cases hx
  | y :: l, hpq, ⟨x, hx, hq, hp⟩ => by
    have hle : (l.filter p).length ≤ (l.filter q).length := by
      clear hx
      induction l with
      | nil => exact Nat.le_refl _
      | cons z l ih =>
        have ih := ih (fun a ha => hpq a (by
          rcases List.mem_cons.1 ha with rfl | ha
          · exact List.mem_cons_self
          · exact List.mem_cons_of_mem _ (List.mem_cons_of_mem _ ha)))
        have hz := hpq z (List.mem_cons_of_mem _ List.mem_cons_self)
        cases hpz : p z with
        | true => rw [List.filter_cons_of_pos hpz, List.filter_cons_of_pos (hz hpz)]; simpa using ih
        | false =>
          rw [List.filter_cons_of_neg (by simp [hpz])]
          cases hqz : q z with
          | true => rw [List.filter_cons_of_pos hqz]; simp only [List.length_cons]; omega
          | false => rw [List.filter_cons_of_neg (by simp [hqz])]; exact ih
    rcases List.mem_cons.1 hx with rfl | hx
    · rw [List.filter_cons_of_pos hq, List.filter_cons_of_neg (by simp [hp])]
      simp only [List.length_cons]; omega
    · have ih := filter_lt (l := l) (fun a ha => hpq a (List.mem_cons_of_mem _ ha)) ⟨x, hx, hq, hp⟩
      have hy := hpq y List.mem_cons_self
      cases hpy : p y with
      | true => rw [List.filter_cons_of_pos hpy, List.filter_cons_of_pos (hy hpy)]; simpa using ih
      | false =>
        rw [List.filter_cons_of_neg (by simp [hpy])]
        cases hqy : q y with
        | true => rw [List.filter_cons_of_pos hqy]; simp only [List.length_cons]; omega
        | false => rw [List.filter_cons_of_neg (by simp [hqy])]; exact ih
/-- how many are left -/
def leftN (es : Array MapEntry) (seen : Array Nat) : Nat := (es.toList.filter (fun e => !seen.contains e.born)).length
theorem leftN_lt {es : Array MapEntry} {seen : Array Nat} {e : MapEntry} (he : e ∈ es.toList) (hs : seen.contains e.born = false) : leftN es (seen.push e.born) < leftN es seen := by
  refine filter_lt (fun x _ h => ?_) ⟨e, he, by rw [hs]; rfl, by simp⟩
  simp only [Array.contains_eq_mem, Array.mem_push, Bool.not_eq_eq_eq_not, Bool.not_true, decide_eq_false_iff_not, not_or] at h ⊢
  exact h.1
theorem seen_push {seen : Array Nat} {b c : Nat} (h : (seen.push b).contains c = true) : c = b ∨ seen.contains c = true := by
  simp only [Array.contains_eq_mem, Array.mem_push, decide_eq_true_eq] at h ⊢
  exact h.symm
/-- the newest one that all have -/
def IsNew (S : Int → Int → Bool) (vols : List Int) (n : Int) : Prop := 0 ≤ n ∧ (n = 0 ∨ (vols ≠ [] ∧ lacksS S n vols = [])) ∧ ∀ m, 0 < m → vols ≠ [] → lacksS S m vols = [] → m ≤ n
theorem lacks_head {S : Int → Int → Bool} {vols : List Int} {m v : Int} (h : lacksS S m vols = []) (hv : v ∈ vols) : rowS S v m = true := by
  unfold lacksS at h
  rw [List.filter_eq_nil_iff] at h
  have := h v hv
  simpa using this
set_option maxHeartbeats 4000000 in
set_option maxRecDepth 10000 in
theorem mnewest_rt (p : Nat) (S : Int → Int → Bool) (a : Option Addr) (n c : Nat) (vols : List Int) (hn : n = vols.length) (hs : n < 100000) :
    RT G 12 [.pointer (some ⟨p, 0, none⟩), .slice a n c] (fun h => mtab p S h ∧ readI a n vols h) (fun v E => ∃ k, IsNew S vols k ∧ v = .int .i64 k ∧ E = []) := by
  obtain ⟨v0, hv0⟩ : ∃ v0, v0 = vols.headD 0 := ⟨_, rfl⟩
  refine RT.pre (R' := exA (fun y : Refs × Array MapEntry × Nat => [fun h => (stars (tabL p S y.1) h ∧ readI a n vols h) ∧ ∀ r, refAt y.1 v0 = some r → MapEs (setM (rowS S v0)) y.2.1 y.2.2 ∧ objA r (.map y.2.1 y.2.2) h])) ?_ (fun k ⟨⟨x, h1⟩, h2⟩ => ?_)
  rotate_left
  · have hin := tab_inn (p := p) (S := S) (x := x) (L := [stars (tabL p S x)]) (up_stars _) (fun _ a => a) List.mem_cons_self v0 k (one_star h1)
    cases hr : refAt x v0 with
    | none => exact ⟨(x, #[], 0), one_star ⟨⟨h1, h2⟩, fun r e => by rw [hr] at e; cases e⟩⟩
    | some r =>
      rw [hr] at hin
      obtain ⟨es, clock, h3, h4⟩ := hin
      exact ⟨(x, es, clock), one_star ⟨⟨h1, h2⟩, fun r' e => by rw [hr] at e; cases e; exact ⟨h3, h4⟩⟩⟩
  refine RT.enterEx Try.func12 rfl (by decide) rfl Try.ntmps12 rfl (fun y A hu hA0 => ?_)
  obtain ⟨x, es, clock⟩ := y
  have hA1 : ∀ k, A k → (stars (tabL p S x) k ∧ readI a n vols k) ∧ ∀ r, refAt x v0 = some r → MapEs (setM (rowS S v0)) es clock ∧ objA r (.map es clock) k := fun k h => star_one (A := fun h => (stars (tabL p S x) h ∧ readI a n vols h) ∧ ∀ r, refAt x v0 = some r → MapEs (setM (rowS S v0)) es clock ∧ objA r (.map es clock) h) (fun h k l ⟨⟨a1, a2⟩, a3⟩ => ⟨⟨up_stars _ _ _ l a1, up_readS _ _ _ _ _ _ l a2⟩, fun r e => ⟨(a3 r e).1, up_objA _ _ _ _ l (a3 r e).2⟩⟩) (hA0 k h)
  have hA : ∀ k, A k → stars (tabL p S x) k := fun k h => (hA1 k h).1.1
  have hV : ∀ {L}, A ∈ L → Ent L (readS a n 1 (vols.map iV)) := fun m => Ent.mem m hu fun k h => (hA1 k h).1.2
  have hlk := mlacks_rt p S
  have hLE : ∀ {L}, A ∈ L → Ent L (fun h => mtab p S h ∧ readI a n vols h) := fun m => Ent.mem m hu fun k h => ⟨⟨x, hA k h⟩, (hA1 k h).1.2⟩
  clear hA0
  repeat (first | refine GD ?_ | refine NW fun _ => ?_)
  refine WC.loop (σ := Nat × Int) (fun s => s.1 ≤ n ∧ s.1 ≤ 1 ∧ (s.1 = 0 → s.2 = 0) ∧ (s.1 = 1 → IsNew S vols s.2))
    (fun s => [(0, .val (.pointer (some ⟨p, 0, none⟩))), (1, .val (.slice a n c)), (5, .val (.int .i64 s.2)), (9, .val (.slice a n c)), (10, .val (.int .i64 n)), (11, .val (.int .i64 s.1))])
    (fun _ => [A]) (fun s => 1 - s.1) (0, 0) ⟨Nat.zero_le _, Nat.zero_le _, fun _ => rfl, fun h => by cases h⟩ ⟨rfl, rfl, rfl, rfl, rfl, rfl, trivial⟩ (Imp.refl _) ?_
  rintro ⟨i, best⟩ ⟨hi1, hi2, hi3, hi4⟩
  dsimp only at hi1 hi2 hi3 hi4 ⊢
  by_cases hlt : i < n
  rotate_left
  · have hN : IsNew S vols best := by
      by_cases h1 : i = 1
      · exact hi4 h1
      · have h0 : vols = [] := List.eq_nil_of_length_eq_zero (by omega)
        rw [hi3 (by omega)]
        exact ⟨Int.le_refl _, .inl rfl, fun m _ hne => absurd h0 hne⟩
    repeat (first | refine GD ?_ | refine NW fun _ => ?_)
    exact ret1 rfl ⟨[], ⟨best, hN, rfl, rfl⟩, Imp.refl _⟩
  refine WC.fact (Ent.some (hV MM) (by omega)) ?_
  rintro ⟨b, off, hab⟩
  have hlk2 : i < vols.length := by omega
  have hel : ∀ {L}, A ∈ L → Ent L (cellAt b (off + i * 1) (iV vols[i])) := fun m => Ent.elem (hV m) hab (int_get hlk2)
  rw [hab]
  by_cases h1 : i = 1
  · subst h1
    have hN := hi4 rfl
    generalize vols[1] = vv at *
    repeat (first | refine GD ?_ | refine NW fun _ => ?_)
    refine WL.step rfl (OP.load1 (v := .int .i64 vv) rfl rfl rfl rfl (hel MM) rfl rfl ?_)
    repeat (first | refine GD ?_ | refine NW fun _ => ?_)
    exact ret1 rfl ⟨[], ⟨best, hN, rfl, rfl⟩, II⟩
  obtain rfl : i = 0 := by omega
  obtain rfl := hi3 rfl
  have hne : vols ≠ [] := fun e => by subst e; simp at hlk2
  have hvm : v0 ∈ vols := by
    cases vols with
    | nil => exact absurd rfl hne
    | cons u r => rw [hv0]; exact List.mem_cons_self
  have hve : vols[0] = v0 := by
    cases vols with
    | nil => exact absurd rfl hne
    | cons u r => rw [hv0]; rfl
  rw [hve] at hel
  repeat (first | refine GD ?_ | refine NW fun _ => ?_)
  refine WL.step rfl (OP.load1 (v := .int .i64 v0) rfl rfl rfl rfl (hel MM) rfl rfl ?_)
  repeat (first | refine GD ?_ | refine NW fun _ => ?_)
  refine WL.step rfl (OP.callRO rfl rfl (tof_ro p x v0) (tab_of hu hA MM) rfl rfl ?_)
  cases href : refAt x v0 with
  | none =>
    have hin : ∀ {L}, A ∈ L → Ent L (innO (rowS S v0) (refAt x v0)) := fun m => tab_inn hu hA m v0
    rw [href] at hin
    refine WL.fact (hin MM) (fun hz => ?_)
    have hN : IsNew S vols 0 := ⟨Int.le_refl _, .inl rfl, fun m _ _ h => by have h2 := hz m; rw [lacks_head h hvm] at h2; cases h2⟩
    refine WL.step rfl (OP.rangeNil rfl rfl rfl rfl rfl rfl (fun it => ?_))
    repeat (first | refine GD ?_ | refine NW fun _ => ?_)
    refine WC.loop (σ := Unit) (fun _ => True)
      (fun _ => [(0, .val (.pointer (some ⟨p, 0, none⟩))), (1, .val (.slice (some ⟨b, off, none⟩) n c)), (5, .val (.int .i64 0)), (9, .val (.slice (some ⟨b, off, none⟩) n c)), (10, .val (.int .i64 n)), (11, .val (.int .i64 0)), (21, .val (.pointer (some ⟨it, 0, none⟩)))])
      (fun _ => [objA it (.mapIter none 0 #[] 0), A]) (fun _ => 0) () trivial ⟨rfl, rfl, rfl, rfl, rfl, rfl, rfl, trivial⟩ (Imp.refl _) ?_
    rintro ⟨⟩ _
    repeat (first | refine GD ?_ | refine NW fun _ => ?_)
    refine WL.step rfl (OP.nextNil rfl rfl (Ent.mem (A := objA it (.mapIter none 0 #[] 0)) MM (up_objA _ _) (fun _ a => a)) rfl rfl ?_)
    repeat (first | refine GD ?_ | refine NW fun _ => ?_)
    exact ⟨(1, 0), ⟨by dsimp only; omega, Nat.le_refl _, (fun h => nomatch h), fun _ => hN⟩, Nat.lt_succ_self 0, ⟨rfl, rfl, rfl, rfl, rfl, rfl, trivial⟩, II⟩
  | some r =>
    have hO : ∀ {L}, A ∈ L → Ent L (objA r (.map es clock)) := fun m => Ent.mem m hu fun k h => ((hA1 k h).2 r href).2
    have hM : ∀ {L}, A ∈ L → Ent L (fun _ => MapEs (setM (rowS S v0)) es clock) := fun m => Ent.mem m hu fun k h => ((hA1 k h).2 r href).1
    refine WL.fact (hM MM) (fun hes => ?_)
    refine WL.step rfl (OP.rangeMap rfl rfl rfl rfl (hO MM) rfl rfl (fun it => ?_))
    repeat (first | refine GD ?_ | refine NW fun _ => ?_)
    refine WC.loop (σ := Int × Array Nat) (fun s => (0 ≤ s.1 ∧ (s.1 = 0 ∨ lacksS S s.1 vols = [])) ∧ ∀ e ∈ es.toList, s.2.contains e.born = true → ∀ k, e.key = .int .i64 k → 0 < k → lacksS S k vols = [] → k ≤ s.1)
      (fun s => [(0, .val (.pointer (some ⟨p, 0, none⟩))), (1, .val (.slice (some ⟨b, off, none⟩) n c)), (5, .val (.int .i64 s.1)), (9, .val (.slice (some ⟨b, off, none⟩) n c)), (10, .val (.int .i64 n)), (11, .val (.int .i64 0)), (21, .val (.pointer (some ⟨it, 0, none⟩)))])
      (fun s => [objA it (.mapIter (some r) clock s.2 clock), A]) (fun s => leftN es s.2) (0, #[]) ⟨⟨Int.le_refl _, .inl rfl⟩, fun e _ h => by simp at h⟩ ⟨rfl, rfl, rfl, rfl, rfl, rfl, rfl, trivial⟩ (Imp.refl _) ?_
    rintro ⟨best, seen⟩ ⟨⟨hb0, hb1⟩, hall⟩
    dsimp only at hb0 hb1 hall ⊢
    repeat (first | refine GD ?_ | refine NW fun _ => ?_)
    refine WL.step rfl (OP.nextMap (M := [A]) rfl rfl (Imp.refl _) (hO MM) (fun x hx => hes.st.1 x hx) (Nat.le_refl _) rfl rfl (fun hdone => ?_) (fun e he hse => ?_))
    · have hN : IsNew S vols best := ⟨hb0, hb1.imp id (fun h => ⟨hne, h⟩), fun m hm _ hl => by
        have h2 : setM (rowS S v0) m = some (.bool true) := by unfold setM; rw [if_pos (lacks_head hl hvm)]
        obtain ⟨e, he, hk, _⟩ := (hes.says m _).1 h2
        exact hall e he (hdone e he) m hk hm hl⟩
      repeat (first | refine GD ?_ | refine NW fun _ => ?_)
      exact ⟨(1, best), ⟨by dsimp only; omega, Nat.le_refl _, (fun h => nomatch h), fun _ => hN⟩, Nat.lt_succ_self 0, ⟨rfl, rfl, rfl, rfl, rfl, rfl, trivial⟩, II⟩
    · obtain ⟨k, hk⟩ : ∃ k : Int, e.key = .int .i64 k := by
        have h1 := hes.keys e he
        cases hxk : e.key <;> rw [hxk] at h1 <;> simp [MapKept.IsKey] at h1
        subst h1
        exact ⟨_, rfl⟩
      have hlt2 := leftN_lt he hse
      repeat (first | refine GD ?_ | refine NW fun _ => ?_)
      refine WL.step rfl (OP.entry rfl rfl (Ent.mem (A := objA it (.mapIter (some r) clock (seen.push e.born) clock)) MM (up_objA _ _) (fun _ a => a)) (hO MM) he hes.st rfl rfl ?_)
      rw [hk]
      have hkeep : ∀ best', best ≤ best' → (0 < k → lacksS S k vols = [] → k ≤ best') → ∀ e' ∈ es.toList, (seen.push e.born).contains e'.born = true → ∀ k', e'.key = .int .i64 k' → 0 < k' → lacksS S k' vols = [] → k' ≤ best' := fun best' hle hkb e' he' hs' k' hk' h0 hl => by
        rcases seen_push hs' with h | h
        · have hee : e' = e := by
            have hnd := hes.st.2.1
            obtain ⟨i, hi, rfl⟩ := List.getElem_of_mem he'
            obtain ⟨j, hj, rfl⟩ := List.getElem_of_mem he
            have hij := (List.getElem_inj (i := i) (j := j) (h₀ := by simpa using hi) (h₁ := by simpa using hj) hnd).1 (by simpa using h)
            subst hij; rfl
          subst hee
          rw [hk] at hk'
          simp only [Value.int.injEq, true_and] at hk'
          subst hk'
          exact hkb h0 hl
        · exact Int.le_trans (hall e' he' h k' hk' h0 hl) hle
      by_cases hkb : best < k
      rotate_left
      · repeat (first | refine GD ?_ | refine NW fun _ => ?_)
        exact ⟨(best, seen.push e.born), ⟨⟨hb0, hb1⟩, hkeep best (Int.le_refl _) (fun _ _ => by omega)⟩, hlt2, ⟨rfl, rfl, rfl, rfl, rfl, rfl, rfl, trivial⟩, II⟩
      repeat (first | refine GD ?_ | refine NW fun _ => ?_)
      refine WL.guardT rfl rfl rfl rfl (OP.callRT rfl rfl (hab ▸ hlk k a n c vols hn hs) (hab ▸ hLE MM) rfl rfl ?_)
      rintro _ _ ⟨a2, cap2, rfl, rfl⟩
      by_cases hz : lacksS S k vols = []
      · have hz2 : ((lacksS S k vols).length : Int) = 0 := by rw [hz]; rfl
        repeat (first | refine GD ?_ | refine NW fun _ => ?_)
        exact ⟨(k, seen.push e.born), ⟨⟨by dsimp only; omega, .inr hz⟩, hkeep k (by omega) (fun _ _ => Int.le_refl _)⟩, hlt2, ⟨rfl, rfl, rfl, rfl, rfl, rfl, rfl, trivial⟩, II⟩
      · have hz2 : ¬ ((lacksS S k vols).length : Int) = 0 := fun h => hz (List.eq_nil_of_length_eq_zero (by omega))
        repeat (first | refine GD ?_ | refine NW fun _ => ?_)
        exact ⟨(best, seen.push e.born), ⟨⟨hb0, hb1⟩, hkeep best (Int.le_refl _) (fun _ h => absurd h hz)⟩, hlt2, ⟨rfl, rfl, rfl, rfl, rfl, rfl, rfl, trivial⟩, II⟩
end Go.Proofs.Ytacgheafbkfciaa
/- Contracts of functions of the given program, and plain laws on what they compute: parts of the proofs of laws. -/

namespace Go.GL
open Go
theorem WL.openMap {G : Ctx} {N : Nat} {ops : Array Oper} {rest : List Oper} {env : Env} {L M : List Assn} {k : Kont} {r : Nat} {m : Int → Option Value} (i : Imp L (mapA r m :: M)) (h : ∀ es clock, MapEs m es clock → WL G N ops rest env (objA r (.map es clock) :: M) k) : WL G N ops rest env L k := .mk fun a w ha hs => by
  obtain ⟨h1, h2, dj, e', ⟨es, clock, he, hb⟩, rest⟩ := i.sat hs
  exact (h es clock he) a w ha ⟨h1, h2, dj, e', hb, rest⟩
theorem Imp.closeMap {L M : List Assn} {r : Nat} {m : Int → Option Value} {es : Array MapEntry} {clock : Nat} (he : MapEs m es clock) (i : Imp L (objA r (.map es clock) :: M)) : Imp L (mapA r m :: M) := fun h s => stars_head_mono (fun _ hk => ⟨es, clock, he, hk⟩) (i h s)
end Go.GL
namespace Go.Proofs.Ytacgheafbkfciaa
open Go Go.GL

def forgetS (S : Int → Int → Bool) (v upto : Int) : Int → Int → Bool := fun a => if a = v then (fun m => S v m && decide (upto < m)) else S a
theorem forgetS_at (S : Int → Int → Bool) (v u : Int) : forgetS S v u v = fun m => S v m && decide (u < m) := if_pos rfl
theorem forgetS_ne {S : Int → Int → Bool} {v u a : Int} (h : a ≠ v) : forgetS S v u a = S a := if_neg h
theorem forgetS_no {S : Int → Int → Bool} {v u : Int} (h : ∀ m, S v m = false) (a : Int) : forgetS S v u a = S a := by
  unfold forgetS
  split
  · rename_i e; subst e; funext m; rw [h m]; rfl
  · rfl
theorem setM_del (f : Int → Bool) (k : Int) : delM (setM f) k = setM (fun b => if b = k then false else f b) := by
  funext x
  unfold delM setM
  by_cases h : x = k
  · simp [h]
  · simp [h]
theorem length_le_nat : ∀ {a b : List Nat}, a.Nodup → (∀ x ∈ a, x ∈ b) → a.length ≤ b.length
  | [], _, _, _ => Nat.zero_le _
  | x :: a, b, hn, hs => by
    have hx := hs x List.mem_cons_self
    have hn' := List.nodup_cons.1 hn
    have h := length_le_nat (a := a) (b := b.erase x) hn'.2 (fun y hy => by
      have hne : y ≠ x := fun e => hn'.1 (e ▸ hy)
      exact (List.mem_erase_of_ne hne).2 (hs y (List.mem_cons_of_mem _ hy)))
    rw [List.length_erase_of_mem hx] at h
    have : 0 < b.length := List.length_pos_of_mem hx
    simp only [List.length_cons]
    omega
theorem leftN_le {es es' : Array MapEntry} {seen : Array Nat} (hn : (es'.toList.map (·.born)).Nodup) (hs : ∀ x ∈ es'.toList, x ∈ es.toList) : leftN es' seen ≤ leftN es seen := by
  unfold leftN
  have h := length_le_nat (a := (es'.toList.filter (fun e => !seen.contains e.born)).map (·.born)) (b := (es.toList.filter (fun e => !seen.contains e.born)).map (·.born))
    (List.pairwise_map.2 ((List.pairwise_map.1 hn).filter _)) (fun x hx => by
      obtain ⟨y, hy, rfl⟩ := List.mem_map.1 hx
      rw [List.mem_filter] at hy
      exact List.mem_map.2 ⟨y, List.mem_filter.2 ⟨hs y hy.1, hy.2⟩, rfl⟩)
  simpa using h
structure FgI (S : Int → Bool) (u : Int) (f : Int → Bool) (es : Array MapEntry) (clock : Nat) (seen : Array Nat) : Prop where
  m : MapEs (setM f) es clock
  sub : ∀ k, f k = true → S k = true
  out : ∀ k, S k = true → f k = false → k ≤ u
  big : ∀ e ∈ es.toList, seen.contains e.born = true → ∀ k, e.key = .int .i64 k → u < k
theorem FgI.done {S : Int → Bool} {u : Int} {f : Int → Bool} {es : Array MapEntry} {clock : Nat} {seen : Array Nat} (I : FgI S u f es clock seen) (h : ∀ e ∈ es.toList, seen.contains e.born = true) : f = fun m => S m && decide (u < m) := by
  funext k
  cases hf : f k with
  | true =>
    obtain ⟨e, he, hk, _⟩ := (I.m.says k (.bool true)).1 (by unfold setM; rw [if_pos hf])
    have h1 := I.big e he (h e he) k hk
    rw [I.sub k hf]
    simp [h1]
  | false =>
    cases hs : S k with
    | false => rfl
    | true =>
      have := I.out k hs hf
      simp; omega
theorem born_inj {es : Array MapEntry} {clock : Nat} (h : Go.MapKept.Stamped es clock) {x y : MapEntry} (hx : x ∈ es.toList) (hy : y ∈ es.toList) (e : x.born = y.born) : x = y := by
  obtain ⟨i, hi, rfl⟩ := List.getElem_of_mem hx
  obtain ⟨j, hj, rfl⟩ := List.getElem_of_mem hy
  have hij := (List.getElem_inj (i := i) (j := j) (h₀ := by simpa using hi) (h₁ := by simpa using hj) h.2.1).1 (by simpa using e)
  subst hij; rfl
theorem FgI.keep {S : Int → Bool} {u : Int} {f : Int → Bool} {es : Array MapEntry} {clock : Nat} {seen : Array Nat} (I : FgI S u f es clock seen) {e : MapEntry} {k : Int} (he : e ∈ es.toList) (hk : e.key = .int .i64 k) (hb : u < k) : FgI S u f es clock (seen.push e.born) :=
  { I with
    big := fun e' he' hs k' hk' => by
      rcases seen_push hs with h | h
      · rw [born_inj I.m.st he' he h, hk] at hk'
        simp only [Value.int.injEq, true_and] at hk'
        omega
      · exact I.big e' he' h k' hk' }
theorem FgI.del {S : Int → Bool} {u : Int} {f : Int → Bool} {es es' : Array MapEntry} {clock : Nat} {seen : Array Nat} (I : FgI S u f es clock seen) {e : MapEntry} {k : Int} (he : e ∈ es.toList) (hk : e.key = .int .i64 k) (hb : k ≤ u) (hm : MapEs (delM (setM f) k) es' clock) (hs : ∀ x ∈ es'.toList, x ∈ es.toList) : FgI S u (fun b => if b = k then false else f b) es' clock (seen.push e.born) := by
  refine ⟨setM_del f k ▸ hm, fun a h => ?_, fun a h1 h2 => ?_, fun e' he' hs' k' hk' => ?_⟩
  · split at h
    · cases h
    · exact I.sub a h
  · split at h2
    · omega
    · exact I.out a h1 h2
  · rcases seen_push hs' with h | h
    · have h3 := born_inj I.m.st (hs e' he') he h
      subst h3
      have h4 := (hm.says k' e'.val).2 ⟨e', he', hk', rfl⟩
      rw [hk] at hk'
      simp only [Value.int.injEq, true_and] at hk'
      unfold delM at h4
      rw [if_pos hk'.symm] at h4
      cases h4
    · exact I.big e' (hs e' he') h k' hk'
set_option maxHeartbeats 16000000 in
set_option maxRecDepth 10000 in
theorem mforget_ok (p : Nat) (S : Int → Int → Bool) (v u : Int) :
    Triple G 16 [.pointer (some ⟨p, 0, none⟩), .int .i64 v, .int .i64 u] [mtab p S] (fun w M => w = .tuple #[] ∧ M = [mtab p (forgetS S v u)]) := by
  refine Triple.enter Try.func16 rfl (by decide) rfl Try.ntmps16 rfl (fun F => ?_)
  refine WC.open (M := [F]) (Ls := tabL p S) II (fun x => ?_)
  unfold tabL
  dsimp only [List.cons_append, List.nil_append]
  obtain ⟨mo, a, b, c, d⟩ := x
  dsimp only
  have hi : ∀ (f : Int → Bool) (r : Nat), innO f (some r) = mapA r (setM f) := fun _ _ => rfl
  repeat (first | refine GD ?_ | refine NW fun _ => ?_)
  by_cases hv : 0 ≤ v ∧ v < 4
  rotate_left
  · have hr : refAt (mo, a, b, c, d) v = none := by
      unfold refAt
      rw [if_neg (by omega), if_neg (by omega), if_neg (by omega), if_neg (by omega)]
    refine WL.step rfl (OP.callRO rfl rfl (tof_ro p (mo, a, b, c, d) v) (Ent.and (Ent.whole (T := 28) MM) (Ent.mem (A := outA mo (outM (mo, a, b, c, d))) MM (up_outA _ _) (fun _ a => a))) rfl rfl ?_)
    rw [show refAt (mo, a, b, c, d) v = none from hr]
    refine WL.step rfl (OP.rangeNil rfl rfl rfl rfl rfl rfl (fun it => ?_))
    repeat (first | refine GD ?_ | refine NW fun _ => ?_)
    refine WC.loop (σ := Unit) (fun _ => True)
      (fun _ => [(10, .val (.pointer (some ⟨it, 0, none⟩)))])
      (fun _ => [objA it (.mapIter none 0 #[] 0), blk p [.map mo] 28, outA mo (outM (mo, a, b, c, d)), innO (S 0) a, innO (S 1) b, innO (S 2) c, innO (S 3) d, F]) (fun _ => 0) () trivial ⟨rfl, trivial⟩ II ?_
    rintro ⟨⟩ _
    repeat (first | refine GD ?_ | refine NW fun _ => ?_)
    refine WL.step rfl (OP.nextNil rfl rfl (Ent.mem (A := objA it (.mapIter none 0 #[] 0)) MM (up_objA _ _) (fun _ a => a)) rfl rfl ?_)
    repeat (first | refine GD ?_ | refine NW fun _ => ?_)
    refine blockK.hit rfl (ret0n ⟨[mtab p (forgetS S v u)], ⟨rfl, rfl⟩, ?_⟩)
    exact Imp.trans II (mtabFold p (forgetS S v u) (mo, a, b, c, d) (forgetS_ne (by omega)) (forgetS_ne (by omega)) (forgetS_ne (by omega)) (forgetS_ne (by omega)))
  have hv : v = 0 ∨ v = 1 ∨ v = 2 ∨ v = 3 := by omega
  rcases hv with rfl | rfl | rfl | rfl
  · cases a with
    | none =>
      refine WL.fact (Ent.mem (A := innO (S 0) none) MM (up_innO _ _) (fun _ x => x)) (fun hfl => ?_)
      repeat (first | refine GD ?_ | refine NW fun _ => ?_)
      refine WL.step rfl (OP.callRO rfl rfl (tof_ro p (mo, none, b, c, d) 0) (Ent.and (Ent.whole (T := 28) MM) (Ent.mem (A := outA mo (outM (mo, none, b, c, d))) MM (up_outA _ _) (fun _ a => a))) rfl rfl ?_)
      rw [show refAt (mo, none, b, c, d) 0 = none from rfl]
      refine WL.step rfl (OP.rangeNil rfl rfl rfl rfl rfl rfl (fun it => ?_))
      repeat (first | refine GD ?_ | refine NW fun _ => ?_)
      refine WC.loop (σ := Unit) (fun _ => True)
        (fun _ => [(10, .val (.pointer (some ⟨it, 0, none⟩)))])
        (fun _ => [objA it (.mapIter none 0 #[] 0), blk p [.map mo] 28, outA mo (outM (mo, none, b, c, d)), innO (S 0) none, innO (S 1) b, innO (S 2) c, innO (S 3) d, F]) (fun _ => 0) () trivial ⟨rfl, trivial⟩ II ?_
      rintro ⟨⟩ _
      repeat (first | refine GD ?_ | refine NW fun _ => ?_)
      refine WL.step rfl (OP.nextNil rfl rfl (Ent.mem (A := objA it (.mapIter none 0 #[] 0)) MM (up_objA _ _) (fun _ a => a)) rfl rfl ?_)
      repeat (first | refine GD ?_ | refine NW fun _ => ?_)
      refine blockK.hit rfl (ret0n ⟨[mtab p (forgetS S 0 u)], ⟨rfl, rfl⟩, ?_⟩)
      exact Imp.trans II (mtabFold p (forgetS S 0 u) (mo, none, b, c, d) (forgetS_no hfl 0) (forgetS_no hfl 1) (forgetS_no hfl 2) (forgetS_no hfl 3))
    | some r =>
      rw [hi]
      repeat (first | refine GD ?_ | refine NW fun _ => ?_)
      refine WL.step rfl (OP.callRO rfl rfl (tof_ro p (mo, some r, b, c, d) 0) (Ent.and (Ent.whole (T := 28) MM) (Ent.mem (A := outA mo (outM (mo, some r, b, c, d))) MM (up_outA _ _) (fun _ a => a))) rfl rfl ?_)
      rw [show refAt (mo, some r, b, c, d) 0 = (some r) from rfl]
      refine WL.openMap (r := r) (m := setM (S 0)) P1 (fun es0 clock he0 => ?_)
      refine WL.step rfl (OP.rangeMap rfl rfl rfl rfl (Ent.mem (A := objA r (.map es0 clock)) MM (up_objA _ _) (fun _ a => a)) rfl rfl (fun it => ?_))
      repeat (first | refine GD ?_ | refine NW fun _ => ?_)
      refine WC.loop (σ := (Int → Bool) × Array MapEntry × Array Nat) (fun s => FgI (S 0) u s.1 s.2.1 clock s.2.2)
        (fun _ => [(0, .val (.pointer (some ⟨p, 0, none⟩))), (1, .val (.int .i64 0)), (2, .val (.int .i64 u)), (10, .val (.pointer (some ⟨it, 0, none⟩)))])
        (fun s => [objA it (.mapIter (some r) clock s.2.2 clock), objA r (.map s.2.1 clock), blk p [.map mo] 28, outA mo (outM (mo, some r, b, c, d)), innO (S 1) b, innO (S 2) c, innO (S 3) d, F]) (fun s => leftN s.2.1 s.2.2) (S 0, es0, #[]) ⟨he0, fun _ h => h, fun k h1 h2 => (by dsimp only at h2; rw [h1] at h2; cases h2), fun e _ h => by simp at h⟩ ⟨rfl, rfl, rfl, rfl, trivial⟩ II ?_
      rintro ⟨f, es, seen⟩ I
      dsimp only at I ⊢
      repeat (first | refine GD ?_ | refine NW fun _ => ?_)
      refine WL.step rfl (OP.nextMap (M := [objA r (.map es clock), blk p [.map mo] 28, outA mo (outM (mo, some r, b, c, d)), innO (S 1) b, innO (S 2) c, innO (S 3) d, F]) rfl rfl (Imp.refl _) (Ent.mem (A := objA r (.map es clock)) MM (up_objA _ _) (fun _ a => a)) (fun x hx => I.m.st.1 x hx) (Nat.le_refl _) rfl rfl (fun hdone => ?_) (fun e he hse => ?_))
      · have hf := I.done hdone
        have hcl := I.m
        rw [hf] at hcl
        repeat (first | refine GD ?_ | refine NW fun _ => ?_)
        refine blockK.hit rfl (ret0n ⟨[mtab p (forgetS S 0 u)], ⟨rfl, rfl⟩, ?_⟩)
        exact Imp.trans (Imp.closeMap hcl P1) (Imp.trans II (mtabFold p (forgetS S 0 u) (mo, some r, b, c, d) (forgetS_at S 0 u) (forgetS_ne (by decide)) (forgetS_ne (by decide)) (forgetS_ne (by decide))))
      · obtain ⟨k, hk⟩ : ∃ k : Int, e.key = .int .i64 k := by
          have h1 := I.m.keys e he
          cases hxk : e.key <;> rw [hxk] at h1 <;> simp [Go.MapKept.IsKey] at h1
          subst h1
          exact ⟨_, rfl⟩
        have hlt2 := leftN_lt he hse
        repeat (first | refine GD ?_ | refine NW fun _ => ?_)
        refine WL.step rfl (OP.entry rfl rfl (Ent.mem (A := objA it (.mapIter (some r) clock (seen.push e.born) clock)) MM (up_objA _ _) (fun _ a => a)) (Ent.mem (A := objA r (.map es clock)) MM (up_objA _ _) (fun _ a => a)) he I.m.st rfl rfl ?_)
        rw [hk]
        by_cases hku : k ≤ u
        rotate_left
        · repeat (first | refine GD ?_ | refine NW fun _ => ?_)
          exact ⟨(f, es, seen.push e.born), I.keep he hk (by omega), hlt2, ⟨rfl, rfl, rfl, rfl, trivial⟩, II⟩
        repeat (first | refine GD ?_ | refine NW fun _ => ?_)
        refine WL.step rfl (OP.callRO rfl rfl (tof_ro p (mo, some r, b, c, d) 0) (Ent.and (Ent.whole (T := 28) MM) (Ent.mem (A := outA mo (outM (mo, some r, b, c, d))) MM (up_outA _ _) (fun _ a => a))) rfl rfl ?_)
        rw [show refAt (mo, some r, b, c, d) 0 = (some r) from rfl]
        repeat (first | refine GD ?_ | refine NW fun _ => ?_)
        refine WL.step rfl (OP.delete rfl rfl rfl rfl rfl rfl rfl (show Imp _ (objA r (.map es clock) :: _) from P1) I.m rfl (fun es' hm' hsub => ?_))
        repeat (first | refine GD ?_ | refine NW fun _ => ?_)
        exact ⟨(_, es', seen.push e.born), I.del he hk hku hm' hsub, Nat.lt_of_le_of_lt (leftN_le hm'.st.2.1 hsub) hlt2, ⟨rfl, rfl, rfl, rfl, trivial⟩, II⟩
  · cases b with
    | none =>
      refine WL.fact (Ent.mem (A := innO (S 1) none) MM (up_innO _ _) (fun _ x => x)) (fun hfl => ?_)
      repeat (first | refine GD ?_ | refine NW fun _ => ?_)
      refine WL.step rfl (OP.callRO rfl rfl (tof_ro p (mo, a, none, c, d) 1) (Ent.and (Ent.whole (T := 28) MM) (Ent.mem (A := outA mo (outM (mo, a, none, c, d))) MM (up_outA _ _) (fun _ a => a))) rfl rfl ?_)
      rw [show refAt (mo, a, none, c, d) 1 = none from rfl]
      refine WL.step rfl (OP.rangeNil rfl rfl rfl rfl rfl rfl (fun it => ?_))
      repeat (first | refine GD ?_ | refine NW fun _ => ?_)
      refine WC.loop (σ := Unit) (fun _ => True)
        (fun _ => [(10, .val (.pointer (some ⟨it, 0, none⟩)))])
        (fun _ => [objA it (.mapIter none 0 #[] 0), blk p [.map mo] 28, outA mo (outM (mo, a, none, c, d)), innO (S 0) a, innO (S 1) none, innO (S 2) c, innO (S 3) d, F]) (fun _ => 0) () trivial ⟨rfl, trivial⟩ II ?_
      rintro ⟨⟩ _
      repeat (first | refine GD ?_ | refine NW fun _ => ?_)
      refine WL.step rfl (OP.nextNil rfl rfl (Ent.mem (A := objA it (.mapIter none 0 #[] 0)) MM (up_objA _ _) (fun _ a => a)) rfl rfl ?_)
      repeat (first | refine GD ?_ | refine NW fun _ => ?_)
      refine blockK.hit rfl (ret0n ⟨[mtab p (forgetS S 1 u)], ⟨rfl, rfl⟩, ?_⟩)
      exact Imp.trans II (mtabFold p (forgetS S 1 u) (mo, a, none, c, d) (forgetS_no hfl 0) (forgetS_no hfl 1) (forgetS_no hfl 2) (forgetS_no hfl 3))
    | some r =>
      rw [hi]
      repeat (first | refine GD ?_ | refine NW fun _ => ?_)
      refine WL.step rfl (OP.callRO rfl rfl (tof_ro p (mo, a, some r, c, d) 1) (Ent.and (Ent.whole (T := 28) MM) (Ent.mem (A := outA mo (outM (mo, a, some r, c, d))) MM (up_outA _ _) (fun _ a => a))) rfl rfl ?_)
      rw [show refAt (mo, a, some r, c, d) 1 = (some r) from rfl]
      refine WL.openMap (r := r) (m := setM (S 1)) P1 (fun es0 clock he0 => ?_)
      refine WL.step rfl (OP.rangeMap rfl rfl rfl rfl (Ent.mem (A := objA r (.map es0 clock)) MM (up_objA _ _) (fun _ a => a)) rfl rfl (fun it => ?_))
      repeat (first | refine GD ?_ | refine NW fun _ => ?_)
      refine WC.loop (σ := (Int → Bool) × Array MapEntry × Array Nat) (fun s => FgI (S 1) u s.1 s.2.1 clock s.2.2)
        (fun _ => [(0, .val (.pointer (some ⟨p, 0, none⟩))), (1, .val (.int .i64 1)), (2, .val (.int .i64 u)), (10, .val (.pointer (some ⟨it, 0, none⟩)))])
        (fun s => [objA it (.mapIter (some r) clock s.2.2 clock), objA r (.map s.2.1 clock), blk p [.map mo] 28, outA mo (outM (mo, a, some r, c, d)), innO (S 0) a, innO (S 2) c, innO (S 3) d, F]) (fun s => leftN s.2.1 s.2.2) (S 1, es0, #[]) ⟨he0, fun _ h => h, fun k h1 h2 => (by dsimp only at h2; rw [h1] at h2; cases h2), fun e _ h => by simp at h⟩ ⟨rfl, rfl, rfl, rfl, trivial⟩ II ?_
      rintro ⟨f, es, seen⟩ I
      dsimp only at I ⊢
      repeat (first | refine GD ?_ | refine NW fun _ => ?_)
      refine WL.step rfl (OP.nextMap (M := [objA r (.map es clock), blk p [.map mo] 28, outA mo (outM (mo, a, some r, c, d)), innO (S 0) a, innO (S 2) c, innO (S 3) d, F]) rfl rfl (Imp.refl _) (Ent.mem (A := objA r (.map es clock)) MM (up_objA _ _) (fun _ a => a)) (fun x hx => I.m.st.1 x hx) (Nat.le_refl _) rfl rfl (fun hdone => ?_) (fun e he hse => ?_))
      · have hf := I.done hdone
        have hcl := I.m
        rw [hf] at hcl
        repeat (first | refine GD ?_ | refine NW fun _ => ?_)
        refine blockK.hit rfl (ret0n ⟨[mtab p (forgetS S 1 u)], ⟨rfl, rfl⟩, ?_⟩)
        exact Imp.trans (Imp.closeMap hcl P1) (Imp.trans II (mtabFold p (forgetS S 1 u) (mo, a, some r, c, d) (forgetS_ne (by decide)) (forgetS_at S 1 u) (forgetS_ne (by decide)) (forgetS_ne (by decide))))
      · obtain ⟨k, hk⟩ : ∃ k : Int, e.key = .int .i64 k := by
          have h1 := I.m.keys e he
          cases hxk : e.key <;> rw [hxk] at h1 <;> simp [Go.MapKept.IsKey] at h1
          subst h1
          exact ⟨_, rfl⟩
        have hlt2 := leftN_lt he hse
        repeat (first | refine GD ?_ | refine NW fun _ => ?_)
        refine WL.step rfl (OP.entry rfl rfl (Ent.mem (A := objA it (.mapIter (some r) clock (seen.push e.born) clock)) MM (up_objA _ _) (fun _ a => a)) (Ent.mem (A := objA r (.map es clock)) MM (up_objA _ _) (fun _ a => a)) he I.m.st rfl rfl ?_)
        rw [hk]
        by_cases hku : k ≤ u
        rotate_left
        · repeat (first | refine GD ?_ | refine NW fun _ => ?_)
          exact ⟨(f, es, seen.push e.born), I.keep he hk (by omega), hlt2, ⟨rfl, rfl, rfl, rfl, trivial⟩, II⟩
        repeat (first | refine GD ?_ | refine NW fun _ => ?_)
        refine WL.step rfl (OP.callRO rfl rfl (tof_ro p (mo, a, some r, c, d) 1) (Ent.and (Ent.whole (T := 28) MM) (Ent.mem (A := outA mo (outM (mo, a, some r, c, d))) MM (up_outA _ _) (fun _ a => a))) rfl rfl ?_)
        rw [show refAt (mo, a, some r, c, d) 1 = (some r) from rfl]
        repeat (first | refine GD ?_ | refine NW fun _ => ?_)
        refine WL.step rfl (OP.delete rfl rfl rfl rfl rfl rfl rfl (show Imp _ (objA r (.map es clock) :: _) from P1) I.m rfl (fun es' hm' hsub => ?_))
        repeat (first | refine GD ?_ | refine NW fun _ => ?_)
        exact ⟨(_, es', seen.push e.born), I.del he hk hku hm' hsub, Nat.lt_of_le_of_lt (leftN_le hm'.st.2.1 hsub) hlt2, ⟨rfl, rfl, rfl, rfl, trivial⟩, II⟩
  · cases c with
    | none =>
      refine WL.fact (Ent.mem (A := innO (S 2) none) MM (up_innO _ _) (fun _ x => x)) (fun hfl => ?_)
      repeat (first | refine GD ?_ | refine NW fun _ => ?_)
      refine WL.step rfl (OP.callRO rfl rfl (tof_ro p (mo, a, b, none, d) 2) (Ent.and (Ent.whole (T := 28) MM) (Ent.mem (A := outA mo (outM (mo, a, b, none, d))) MM (up_outA _ _) (fun _ a => a))) rfl rfl ?_)
      rw [show refAt (mo, a, b, none, d) 2 = none from rfl]
      refine WL.step rfl (OP.rangeNil rfl rfl rfl rfl rfl rfl (fun it => ?_))
      repeat (first | refine GD ?_ | refine NW fun _ => ?_)
      refine WC.loop (σ := Unit) (fun _ => True)
        (fun _ => [(10, .val (.pointer (some ⟨it, 0, none⟩)))])
        (fun _ => [objA it (.mapIter none 0 #[] 0), blk p [.map mo] 28, outA mo (outM (mo, a, b, none, d)), innO (S 0) a, innO (S 1) b, innO (S 2) none, innO (S 3) d, F]) (fun _ => 0) () trivial ⟨rfl, trivial⟩ II ?_
      rintro ⟨⟩ _
      repeat (first | refine GD ?_ | refine NW fun _ => ?_)
      refine WL.step rfl (OP.nextNil rfl rfl (Ent.mem (A := objA it (.mapIter none 0 #[] 0)) MM (up_objA _ _) (fun _ a => a)) rfl rfl ?_)
      repeat (first | refine GD ?_ | refine NW fun _ => ?_)
      refine blockK.hit rfl (ret0n ⟨[mtab p (forgetS S 2 u)], ⟨rfl, rfl⟩, ?_⟩)
      exact Imp.trans II (mtabFold p (forgetS S 2 u) (mo, a, b, none, d) (forgetS_no hfl 0) (forgetS_no hfl 1) (forgetS_no hfl 2) (forgetS_no hfl 3))
    | some r =>
      rw [hi]
      repeat (first | refine GD ?_ | refine NW fun _ => ?_)
      refine WL.step rfl (OP.callRO rfl rfl (tof_ro p (mo, a, b, some r, d) 2) (Ent.and (Ent.whole (T := 28) MM) (Ent.mem (A := outA mo (outM (mo, a, b, some r, d))) MM (up_outA _ _) (fun _ a => a))) rfl rfl ?_)
      rw [show refAt (mo, a, b, some r, d) 2 = (some r) from rfl]
      refine WL.openMap (r := r) (m := setM (S 2)) P1 (fun es0 clock he0 => ?_)
      refine WL.step rfl (OP.rangeMap rfl rfl rfl rfl (Ent.mem (A := objA r (.map es0 clock)) MM (up_objA _ _) (fun _ a => a)) rfl rfl (fun it => ?_))
      repeat (first | refine GD ?_ | refine NW fun _ => ?_)
      refine WC.loop (σ := (Int → Bool) × Array MapEntry × Array Nat) (fun s => FgI (S 2) u s.1 s.2.1 clock s.2.2)
        (fun _ => [(0, .val (.pointer (some ⟨p, 0, none⟩))), (1, .val (.int .i64 2)), (2, .val (.int .i64 u)), (10, .val (.pointer (some ⟨it, 0, none⟩)))])
        (fun s => [objA it (.mapIter (some r) clock s.2.2 clock), objA r (.map s.2.1 clock), blk p [.map mo] 28, outA mo (outM (mo, a, b, some r, d)), innO (S 0) a, innO (S 1) b, innO (S 3) d, F]) (fun s => leftN s.2.1 s.2.2) (S 2, es0, #[]) ⟨he0, fun _ h => h, fun k h1 h2 => (by dsimp only at h2; rw [h1] at h2; cases h2), fun e _ h => by simp at h⟩ ⟨rfl, rfl, rfl, rfl, trivial⟩ II ?_
      rintro ⟨f, es, seen⟩ I
      dsimp only at I ⊢
      repeat (first | refine GD ?_ | refine NW fun _ => ?_)
      refine WL.step rfl (OP.nextMap (M := [objA r (.map es clock), blk p [.map mo] 28, outA mo (outM (mo, a, b, some r, d)), innO (S 0) a, innO (S 1) b, innO (S 3) d, F]) rfl rfl (Imp.refl _) (Ent.mem (A := objA r (.map es clock)) MM (up_objA _ _) (fun _ a => a)) (fun x hx => I.m.st.1 x hx) (Nat.le_refl _) rfl rfl (fun hdone => ?_) (fun e he hse => ?_))
      · have hf := I.done hdone
        have hcl := I.m
        rw [hf] at hcl
        repeat (first | refine GD ?_ | refine NW fun _ => ?_)
        refine blockK.hit rfl (ret0n ⟨[mtab p (forgetS S 2 u)], ⟨rfl, rfl⟩, ?_⟩)
        exact Imp.trans (Imp.closeMap hcl P1) (Imp.trans II (mtabFold p (forgetS S 2 u) (mo, a, b, some r, d) (forgetS_ne (by decide)) (forgetS_ne (by decide)) (forgetS_at S 2 u) (forgetS_ne (by decide))))
      · obtain ⟨k, hk⟩ : ∃ k : Int, e.key = .int .i64 k := by
          have h1 := I.m.keys e he
          cases hxk : e.key <;> rw [hxk] at h1 <;> simp [Go.MapKept.IsKey] at h1
          subst h1
          exact ⟨_, rfl⟩
        have hlt2 := leftN_lt he hse
        repeat (first | refine GD ?_ | refine NW fun _ => ?_)
        refine WL.step rfl (OP.entry rfl rfl (Ent.mem (A := objA it (.mapIter (some r) clock (seen.push e.born) clock)) MM (up_objA _ _) (fun _ a => a)) (Ent.mem (A := objA r (.map es clock)) MM (up_objA _ _) (fun _ a => a)) he I.m.st rfl rfl ?_)
        rw [hk]
        by_cases hku : k ≤ u
        rotate_left
        · repeat (first | refine GD ?_ | refine NW fun _ => ?_)
          exact ⟨(f, es, seen.push e.born), I.keep he hk (by omega), hlt2, ⟨rfl, rfl, rfl, rfl, trivial⟩, II⟩
        repeat (first | refine GD ?_ | refine NW fun _ => ?_)
        refine WL.step rfl (OP.callRO rfl rfl (tof_ro p (mo, a, b, some r, d) 2) (Ent.and (Ent.whole (T := 28) MM) (Ent.mem (A := outA mo (outM (mo, a, b, some r, d))) MM (up_outA _ _) (fun _ a => a))) rfl rfl ?_)
        rw [show refAt (mo, a, b, some r, d) 2 = (some r) from rfl]
        repeat (first | refine GD ?_ | refine NW fun _ => ?_)
        refine WL.step rfl (OP.delete rfl rfl rfl rfl rfl rfl rfl (show Imp _ (objA r (.map es clock) :: _) from P1) I.m rfl (fun es' hm' hsub => ?_))
        repeat (first | refine GD ?_ | refine NW fun _ => ?_)
        exact ⟨(_, es', seen.push e.born), I.del he hk hku hm' hsub, Nat.lt_of_le_of_lt (leftN_le hm'.st.2.1 hsub) hlt2, ⟨rfl, rfl, rfl, rfl, trivial⟩, II⟩
  · cases d with
    | none =>
      refine WL.fact (Ent.mem (A := innO (S 3) none) MM (up_innO _ _) (fun _ x => x)) (fun hfl => ?_)
      repeat (first | refine GD ?_ | refine NW fun _ => ?_)
      refine WL.step rfl (OP.callRO rfl rfl (tof_ro p (mo, a, b, c, none) 3) (Ent.and (Ent.whole (T := 28) MM) (Ent.mem (A := outA mo (outM (mo, a, b, c, none))) MM (up_outA _ _) (fun _ a => a))) rfl rfl ?_)
      rw [show refAt (mo, a, b, c, none) 3 = none from rfl]
      refine WL.step rfl (OP.rangeNil rfl rfl rfl rfl rfl rfl (fun it => ?_))
      repeat (first | refine GD ?_ | refine NW fun _ => ?_)
      refine WC.loop (σ := Unit) (fun _ => True)
        (fun _ => [(10, .val (.pointer (some ⟨it, 0, none⟩)))])
        (fun _ => [objA it (.mapIter none 0 #[] 0), blk p [.map mo] 28, outA mo (outM (mo, a, b, c, none)), innO (S 0) a, innO (S 1) b, innO (S 2) c, innO (S 3) none, F]) (fun _ => 0) () trivial ⟨rfl, trivial⟩ II ?_
      rintro ⟨⟩ _
      repeat (first | refine GD ?_ | refine NW fun _ => ?_)
      refine WL.step rfl (OP.nextNil rfl rfl (Ent.mem (A := objA it (.mapIter none 0 #[] 0)) MM (up_objA _ _) (fun _ a => a)) rfl rfl ?_)
      repeat (first | refine GD ?_ | refine NW fun _ => ?_)
      refine blockK.hit rfl (ret0n ⟨[mtab p (forgetS S 3 u)], ⟨rfl, rfl⟩, ?_⟩)
      exact Imp.trans II (mtabFold p (forgetS S 3 u) (mo, a, b, c, none) (forgetS_no hfl 0) (forgetS_no hfl 1) (forgetS_no hfl 2) (forgetS_no hfl 3))
    | some r =>
      rw [hi]
      repeat (first | refine GD ?_ | refine NW fun _ => ?_)
      refine WL.step rfl (OP.callRO rfl rfl (tof_ro p (mo, a, b, c, some r) 3) (Ent.and (Ent.whole (T := 28) MM) (Ent.mem (A := outA mo (outM (mo, a, b, c, some r))) MM (up_outA _ _) (fun _ a => a))) rfl rfl ?_)
      rw [show refAt (mo, a, b, c, some r) 3 = (some r) from rfl]
      refine WL.openMap (r := r) (m := setM (S 3)) P1 (fun es0 clock he0 => ?_)
      refine WL.step rfl (OP.rangeMap rfl rfl rfl rfl (Ent.mem (A := objA r (.map es0 clock)) MM (up_objA _ _) (fun _ a => a)) rfl rfl (fun it => ?_))
      repeat (first | refine GD ?_ | refine NW fun _ => ?_)
      refine WC.loop (σ := (Int → Bool) × Array MapEntry × Array Nat) (fun s => FgI (S 3) u s.1 s.2.1 clock s.2.2)
        (fun _ => [(0, .val (.pointer (some ⟨p, 0, none⟩))), (1, .val (.int .i64 3)), (2, .val (.int .i64 u)), (10, .val (.pointer (some ⟨it, 0, none⟩)))])
        (fun s => [objA it (.mapIter (some r) clock s.2.2 clock), objA r (.map s.2.1 clock), blk p [.map mo] 28, outA mo (outM (mo, a, b, c, some r)), innO (S 0) a, innO (S 1) b, innO (S 2) c, F]) (fun s => leftN s.2.1 s.2.2) (S 3, es0, #[]) ⟨he0, fun _ h => h, fun k h1 h2 => (by dsimp only at h2; rw [h1] at h2; cases h2), fun e _ h => by simp at h⟩ ⟨rfl, rfl, rfl, rfl, trivial⟩ II ?_
      rintro ⟨f, es, seen⟩ I
      dsimp only at I ⊢
      repeat (first | refine GD ?_ | refine NW fun _ => ?_)
      refine WL.step rfl (OP.nextMap (M := [objA r (.map es clock), blk p [.map mo] 28, outA mo (outM (mo, a, b, c, some r)), innO (S 0) a, innO (S 1) b, innO (S 2) c, F]) rfl rfl (Imp.refl _) (Ent.mem (A := objA r (.map es clock)) MM (up_objA _ _) (fun _ a => a)) (fun x hx => I.m.st.1 x hx) (Nat.le_refl _) rfl rfl (fun hdone => ?_) (fun e he hse => ?_))
      · have hf := I.done hdone
        have hcl := I.m
        rw [hf] at hcl
        repeat (first | refine GD ?_ | refine NW fun _ => ?_)
        refine blockK.hit rfl (ret0n ⟨[mtab p (forgetS S 3 u)], ⟨rfl, rfl⟩, ?_⟩)
        exact Imp.trans (Imp.closeMap hcl P1) (Imp.trans II (mtabFold p (forgetS S 3 u) (mo, a, b, c, some r) (forgetS_ne (by decide)) (forgetS_ne (by decide)) (forgetS_ne (by decide)) (forgetS_at S 3 u)))
      · obtain ⟨k, hk⟩ : ∃ k : Int, e.key = .int .i64 k := by
          have h1 := I.m.keys e he
          cases hxk : e.key <;> rw [hxk] at h1 <;> simp [Go.MapKept.IsKey] at h1
          subst h1
          exact ⟨_, rfl⟩
        have hlt2 := leftN_lt he hse
        repeat (first | refine GD ?_ | refine NW fun _ => ?_)
        refine WL.step rfl (OP.entry rfl rfl (Ent.mem (A := objA it (.mapIter (some r) clock (seen.push e.born) clock)) MM (up_objA _ _) (fun _ a => a)) (Ent.mem (A := objA r (.map es clock)) MM (up_objA _ _) (fun _ a => a)) he I.m.st rfl rfl ?_)
        rw [hk]
        by_cases hku : k ≤ u
        rotate_left
        · repeat (first | refine GD ?_ | refine NW fun _ => ?_)
          exact ⟨(f, es, seen.push e.born), I.keep he hk (by omega), hlt2, ⟨rfl, rfl, rfl, rfl, trivial⟩, II⟩
        repeat (first | refine GD ?_ | refine NW fun _ => ?_)
        refine WL.step rfl (OP.callRO rfl rfl (tof_ro p (mo, a, b, c, some r) 3) (Ent.and (Ent.whole (T := 28) MM) (Ent.mem (A := outA mo (outM (mo, a, b, c, some r))) MM (up_outA _ _) (fun _ a => a))) rfl rfl ?_)
        rw [show refAt (mo, a, b, c, some r) 3 = (some r) from rfl]
        repeat (first | refine GD ?_ | refine NW fun _ => ?_)
        refine WL.step rfl (OP.delete rfl rfl rfl rfl rfl rfl rfl (show Imp _ (objA r (.map es clock) :: _) from P1) I.m rfl (fun es' hm' hsub => ?_))
        repeat (first | refine GD ?_ | refine NW fun _ => ?_)
        exact ⟨(_, es', seen.push e.born), I.del he hk hku hm' hsub, Nat.lt_of_le_of_lt (leftN_le hm'.st.2.1 hsub) hlt2, ⟨rfl, rfl, rfl, rfl, trivial⟩, II⟩
end Go.Proofs.Ytacgheafbkfciaa
