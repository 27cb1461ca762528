/- Contracts of functions of the given program, and plain laws: parts of the proofs of laws. -/
import Derived.Test.YtacgheafbkfciaaZMk7
import Derived.Test.YtacgheafbkfciaaZMk11
import Derived.Test.YtacgheafbkfciaaZMk5
/- Contracts of functions of the given program, and plain laws on what they compute: parts of the proofs of laws. -/

namespace Go.Proofs.Ytacgheafbkfciaa
open Go Go.GL

/-! what the laws of marks are made of -/
abbrev MOp := Int × Int × Int
def encM (o : MOp) : List Value := [.int .i64 o.1, .int .i64 o.2.1, .int .i64 o.2.2]
theorem encM_len (o : MOp) : (encM o).length = 3 := rfl
theorem mop_of {x : List Value} (h : LfsOk [.int .i64, .int .i64, .int .i64] x) : ∃ o : MOp, x = encM o ∧ (Lit.int .i64 o.2.2).wf = true := by
  obtain ⟨k, s, rfl, _, h⟩ := h.int
  obtain ⟨n, s, rfl, _, h⟩ := h.int
  obtain ⟨m, s, rfl, w2, h⟩ := h.int
  rw [h.nil]
  exact ⟨(k, n, m), rfl, w2⟩
def noS : Int → Int → Bool := fun _ _ => false
theorem Imp.pureA {L : List Assn} {p : Prop} (h : p) : Imp L ((fun _ => p) :: L) := fun k s => ⟨Hp.empty, k, fun _ => .inl rfl, by funext b; simp [Hp.join, Hp.empty], h, s⟩
theorem mtabNil (p : Nat) {N : List Assn} : Imp (blk p [.map none] 28 :: N) (mtab p noS :: N) := by
  refine Imp.trans ?_ (mtabFold p noS (none, none, none, none, none) rfl rfl rfl rfl)
  refine Imp.cons ?_
  refine Imp.trans (Imp.pureA (p := ∀ k, outM (none, none, none, none, none) k = none) (fun k => by unfold outM refAt refV; simp)) (Imp.cons ?_)
  exact Imp.trans (Imp.pureA (p := ∀ m, noS 0 m = false) (fun _ => rfl)) (Imp.cons (Imp.trans (Imp.pureA (p := ∀ m, noS 1 m = false) (fun _ => rfl)) (Imp.cons (Imp.trans (Imp.pureA (p := ∀ m, noS 2 m = false) (fun _ => rfl)) (Imp.cons (Imp.pureA (p := ∀ m, noS 3 m = false) (fun _ => rfl)))))))
def stepS (S : Int → Int → Bool) (v m : Int) : Int → Int → Bool := match putE S v m with
  | .ok S' => S'
  | .error _ => S
def playS (l : List MOp) : Int → Int → Bool := l.foldl (fun S o => stepS S o.2.1 o.2.2) noS
theorem playS_snoc (l : List MOp) (o : MOp) : playS (l ++ [o]) = stepS (playS l) o.2.1 o.2.2 := by unfold playS; rw [List.foldl_append]; rfl
theorem putE_cases (S : Int → Int → Bool) (v m : Int) : (∃ c, putE S v m = .error c) ∨ (0 ≤ v ∧ v < 4 ∧ 1 ≤ m ∧ putE S v m = .ok (putS S v m)) := by
  unfold putE
  by_cases h : 0 ≤ v ∧ v < 4
  · rw [if_neg (by omega)]
    by_cases hm : m < 1
    · rw [if_pos hm]; exact .inl ⟨_, rfl⟩
    · rw [if_neg hm]; exact .inr ⟨h.1, h.2, by omega, rfl⟩
  · rw [if_pos h]; exact .inl ⟨_, rfl⟩
theorem stepS_eq (S : Int → Int → Bool) (v m a b : Int) : stepS S v m a b = (S a b || decide (a = v ∧ b = m ∧ 0 ≤ v ∧ v < 4 ∧ 1 ≤ m)) := by
  unfold stepS
  rcases putE_cases S v m with ⟨c, h⟩ | ⟨h1, h2, h3, h⟩
  · rw [h]
    have : ¬ (a = v ∧ b = m ∧ 0 ≤ v ∧ v < 4 ∧ 1 ≤ m) := fun ⟨_, _, h1, h2, h3⟩ => by
      unfold putE at h
      rw [if_neg (by omega), if_neg (by omega)] at h
      cases h
    simp [this]
  · rw [h]
    show putS S v m a b = _
    unfold putS
    by_cases ha : a = v
    · subst ha
      rw [if_pos rfl]
      by_cases hb : b = m
      · subst hb; simp [h1, h2, h3]
      · simp [hb]
    · simp [ha]
theorem Few.none (l : List Int) (h : l.length ≤ 100000) : Few noS l := ⟨fun _ _ h => (nomatch h), fun _ _ h => (nomatch h), h⟩
theorem Few.step {S : Int → Int → Bool} {l : List Int} (F : Few S l) {v m : Int} (hm : m ∈ l) (hw : (Lit.int .i64 m).wf = true) : Few (stepS S v m) l := by
  refine ⟨fun a b h => ?_, fun a b h => ?_, F.len⟩
  · rw [stepS_eq, Bool.or_eq_true, decide_eq_true_eq] at h
    rcases h with h | h
    · exact F.wf a b h
    · rw [h.2.1]; exact hw
  · rw [stepS_eq, Bool.or_eq_true, decide_eq_true_eq] at h
    rcases h with h | h
    · exact F.mem a b h
    · rw [h.2.1]; exact hm
theorem Few.mono {S : Int → Int → Bool} {l l' : List Int} (F : Few S l) (h : ∀ x ∈ l, x ∈ l') (hl : l'.length ≤ 100000) : Few S l' := ⟨F.wf, fun v k hk => h k (F.mem v k hk), hl⟩
theorem Few.sub {S S' : Int → Int → Bool} {l : List Int} (F : Few S l) (h : ∀ v k, S' v k = true → S v k = true) : Few S' l := ⟨fun v k hk => F.wf v k (h v k hk), fun v k hk => F.mem v k (h v k hk), F.len⟩
def keysM (l : List MOp) : List Int := l.map (fun o => o.2.2)
theorem keysM_mem {l : List MOp} {k : Nat} (h : k < l.length) : l[k].2.2 ∈ keysM l := List.mem_map.2 ⟨_, List.getElem_mem h, rfl⟩
def Mput1 (p : Nat) (S : Int → Int → Bool) (v m : Int) (M : List Assn) : Prop := ∃ E, M = E ++ [mtab p (stepS S v m)]
theorem MPut.one {p : Nat} {S : Int → Int → Bool} {v m : Int} {x : Value} {M : List Assn} (h : MPut p S v m x M) : Mput1 p S v m M := by
  unfold MPut at h
  unfold Mput1 stepS
  cases he : putE S v m with
  | ok S' => rw [he] at h; exact ⟨[], h.2⟩
  | error c =>
    rw [he] at h
    obtain ⟨E, _, h2⟩ := h
    exact ⟨E, h2⟩
set_option maxHeartbeats 1000000 in
set_option maxRecDepth 10000 in
theorem msame_ro (a1 a2 : Option Addr) (n1 c1 n2 c2 : Nat) (l1 l2 : List Int) (h1 : n1 = l1.length) (h2 : n2 = l2.length) (hs : n1 < 1000000) : RO G 15 [.slice a1 n1 c1, .slice a2 n2 c2] (fun h => readI a1 n1 l1 h ∧ readI a2 n2 l2 h) (.bool (decide (l1 = l2))) := by
  refine RO.enter Try.func15 rfl (by decide) rfl Try.ntmps15 rfl (fun A hu hA => ?_) (up_and (up_readS _ _ _ _) (up_readS _ _ _ _))
  have hE1 : ∀ {L}, A ∈ L → Ent L (readI a1 n1 l1) := fun m => Ent.mem m hu fun k x => (hA k x).1
  have hE2 : ∀ {L}, A ∈ L → Ent L (readI a2 n2 l2) := fun m => Ent.mem m hu fun k x => (hA k x).2
  by_cases hne : n1 = n2
  rotate_left
  · have : l1 ≠ l2 := fun e => hne (by rw [h1, h2, e])
    repeat (first | refine GD ?_ | refine NW fun _ => ?_)
    exact ret1 rfl ⟨by simp [this], MM⟩
  subst hne
  repeat (first | refine GD ?_ | refine NW fun _ => ?_)
  refine WC.loop (σ := Nat) (fun k => k ≤ n1 ∧ ∀ j, j < k → l1[j]? = l2[j]?)
    (fun k => [(0, .val (.slice a1 n1 c1)), (1, .val (.slice a2 n1 c2)), (12, .val (.int .i64 n1)), (13, .val (.int .i64 k))])
    (fun k => [A]) (fun k => n1 - k) 0 ⟨Nat.zero_le _, fun j hj => by omega⟩ ⟨rfl, rfl, rfl, rfl, trivial⟩ (Imp.refl _) ?_
  rintro k ⟨hk, hall⟩
  by_cases hlt : k < n1
  rotate_left
  · repeat (first | refine GD ?_ | refine NW fun _ => ?_)
    refine ret1 rfl ⟨?_, MM⟩
    have : l1 = l2 := List.ext_getElem? fun i => by
      by_cases hi : i < k
      · exact hall i hi
      · rw [List.getElem?_eq_none (by omega), List.getElem?_eq_none (by omega)]
    simp [this]
  have hl1 : k < l1.length := by omega
  have hl2 : k < l2.length := by omega
  repeat (first | refine GD ?_ | refine NW fun _ => ?_)
  refine WC.fact (Ent.some (hE1 MM) (by omega)) ?_
  rintro ⟨b, off, rfl⟩
  refine WC.fact (Ent.some (hE2 MM) (by omega)) ?_
  rintro ⟨b', off', rfl⟩
  refine RD 9 9 (_) ?_
  refine WP 0 ?_
  refine WP 1 ?_
  refine WP 2 ?_
  refine VL 3 (iV l1[k]) rfl rfl rfl rfl (.inl ⟨rfl, Ent.elem (hE1 MM) rfl (int_get hl1)⟩) ?_
  refine WP 4 ?_
  refine WP 5 ?_
  refine WP 6 ?_
  refine VL 7 (iV l2[k]) rfl rfl rfl rfl (.inl ⟨rfl, Ent.elem (hE2 MM) rfl (int_get hl2)⟩) ?_
  refine WP 8 ?_
  refine DN ?_
  by_cases he : l1[k] = l2[k]
  · rw [decide_eq_true he]
    repeat (first | refine GD ?_ | refine NW fun _ => ?_)
    exact ⟨k + 1, ⟨by omega, fun j hj => by
      by_cases e : j = k
      · subst e; rw [List.getElem?_eq_getElem hl1, List.getElem?_eq_getElem hl2, he]
      · exact hall j (by omega)⟩, by omega, ⟨rfl, rfl, rfl, rfl, trivial⟩, Imp.refl _⟩
  · rw [decide_eq_false he]
    repeat (first | refine GD ?_ | refine NW fun _ => ?_)
    refine ret1 rfl ⟨?_, MM⟩
    have : l1 ≠ l2 := fun e => he (by subst e; rfl)
    simp [this]
end Go.Proofs.Ytacgheafbkfciaa
/- Contracts of functions of the given program, and plain laws on what they compute: parts of the proofs of laws. -/

namespace Go.Proofs.Ytacgheafbkfciaa
open Go Go.GL

theorem sorted_one {f : Int → Bool} {l : List Int} {a : Int} (h : SortedOf f l) (hf : ∀ k, f k = true ↔ k = a) : l = [a] := by
  obtain ⟨h1, h2⟩ := h
  have ha : a ∈ l := (h2 a).2 ((hf a).2 rfl)
  have hall : ∀ x ∈ l, x = a := fun x hx => (hf x).1 ((h2 x).1 hx)
  match l, ha, hall, h1 with
  | [x], _, hall, _ => rw [hall x List.mem_cons_self]
  | x :: y :: r, _, hall, h1 =>
    have e1 := hall x List.mem_cons_self
    have e2 := hall y (List.mem_cons_of_mem _ List.mem_cons_self)
    have := List.rel_of_pairwise_cons h1 (List.mem_cons_self (a := y) (l := r))
    omega
set_option maxHeartbeats 4000000 in
set_option maxRecDepth 10000 in
theorem mawake_ro : RO G 10 [] (fun _ => True) (.bool true) := by
  refine RO.enter Try.func10 rfl (by decide) rfl Try.ntmps10 rfl (fun A hu hA => ?_) (fun _ _ _ h => h)
  repeat (first | refine GO ?_ | refine NW fun _ => ?_)
  rename_i p
  refine WL.imp (mtabNil p) ?_
  refine WL.step rfl (OP.call (pre := [mtab p noS]) rfl rfl (mput_ok p noS 0 2) PS rfl rfl ?_)
  intro v M h
  unfold MPut at h
  rw [show putE noS 0 2 = .ok (putS noS 0 2) from rfl] at h
  obtain ⟨rfl, rfl⟩ := h
  repeat (first | refine GO ?_ | refine NW fun _ => ?_)
  refine WL.guardT rfl rfl rfl rfl (OP.call (pre := [mtab p (putS noS 0 2)]) rfl rfl (mput_ok p _ 1 2) PS rfl rfl ?_)
  intro v M h
  unfold MPut at h
  rw [show putE (putS noS 0 2) 1 2 = .ok (putS (putS noS 0 2) 1 2) from rfl] at h
  obtain ⟨rfl, rfl⟩ := h
  have hSd : ∀ a b, putS (putS noS 0 2) 1 2 a b = true ↔ (a = 0 ∨ a = 1) ∧ b = 2 := fun a b => by
    unfold putS noS
    by_cases h1 : a = 1
    · subst h1; simp
    · by_cases h0 : a = 0
      · subst h0; simp
      · simp [h0, h1]
  generalize hS : putS (putS noS 0 2) 1 2 = S at *
  have hF : Few S [2] := ⟨fun a b h => (by rw [((hSd a b).1 h).2]; rfl), fun a b h => (by rw [((hSd a b).1 h).2]; exact List.mem_cons_self), by decide⟩
  have hr0 : ∀ k, rowS S 0 k = true ↔ k = 2 := fun k => by
    unfold rowS
    rw [if_pos (by decide), hSd]; simp
  repeat (first | refine GO ?_ | refine NW fun _ => ?_)
  refine WL.guardT rfl rfl rfl rfl (OP.sliceLit (c := [iV 0, iV 1]) rfl rfl rfl rfl rfl rfl rfl rfl (fun b => ?_))
  refine WL.guardT rfl rfl rfl rfl (OP.callRT rfl rfl (mnewest_rt p S (some ⟨b, 0, none⟩) 2 2 [0, 1] rfl (by decide)) (Ent.and (Ent.mem (A := mtab p S) MM (up_mtab _ _) fun _ a => a) (Ent.own (T := 3) (cap := 2) MM)) rfl rfl ?_)
  rintro _ _ ⟨k, hk, rfl, rfl⟩
  obtain rfl : k = 2 := by
    obtain ⟨_, h2, h3⟩ := hk
    have hl2 : lacksS S 2 [0, 1] = [] := by
      unfold lacksS
      rw [List.filter_eq_nil_iff]
      intro v hv
      have hv2 : v = 0 ∨ v = 1 := by simpa using hv
      have : rowS S v 2 = true := by
        unfold rowS
        rw [if_pos (by omega), hSd]
        exact ⟨hv2, rfl⟩
      simp [this]
    have := h3 2 (by decide) (by decide) hl2
    rcases h2 with h2 | ⟨_, h2⟩
    · omega
    · exact (hr0 k).1 (lacks_head h2 List.mem_cons_self)
  repeat (first | refine GO ?_ | refine NW fun _ => ?_)
  refine WL.guardT rfl rfl rfl rfl (OP.callRT rfl rfl (mof_rt p S 0 hF) (Ent.mem (A := mtab p S) MM (up_mtab _ _) fun _ a => a) rfl rfl ?_)
  rintro _ _ ⟨a, cap, l, hl, rfl, rfl⟩
  obtain rfl : l = [2] := sorted_one hl hr0
  repeat (first | refine GO ?_ | refine NW fun _ => ?_)
  exact ret1 rfl ⟨rfl, MM⟩
end Go.Proofs.Ytacgheafbkfciaa
/- Contracts of functions of the given program, and plain laws on what they compute: parts of the proofs of laws. -/

namespace Go.Proofs.Ytacgheafbkfciaa
open Go Go.GL

theorem Imp.dropL : ∀ (E L : List Assn), Imp (E ++ L) L
  | [], L => Imp.refl L
  | _ :: E, L => Imp.dropTail (Imp.dropL E L)
theorem Imp.dropE (E L M : List Assn) : Imp ((E ++ L) ++ M) (L ++ M) := Imp.app (Imp.dropL E L) M
/-! plain law of MarksLacks -/
theorem playFew {l : List MOp} (hw : ∀ o ∈ l, (Lit.int .i64 o.2.2).wf = true) (hn : l.length ≤ 200) : Few (playS l) (keysM l) := by
  have go : ∀ (r : List MOp) (S : Int → Int → Bool), Few S (keysM l) → (∀ o ∈ r, o ∈ l) → Few (r.foldl (fun S o => stepS S o.2.1 o.2.2) S) (keysM l) := by
    intro r
    induction r with
    | nil => intro S F _; exact F
    | cons o r ih =>
      intro S F h
      have ho := h o List.mem_cons_self
      exact ih _ (F.step (List.mem_map.2 ⟨o, ho, rfl⟩) (hw o ho)) (fun x hx => h x (List.mem_cons_of_mem _ hx))
  exact go l noS (Few.none _ (by unfold keysM; rw [List.length_map]; omega)) (fun _ h => h)
def putAll (S : Int → Int → Bool) (mark : Int) (vs : List Int) : Int → Int → Bool := vs.foldl (fun S v => stepS S v mark) S
theorem putAll_snoc (S : Int → Int → Bool) (mark : Int) (vs : List Int) (v : Int) : putAll S mark (vs ++ [v]) = stepS (putAll S mark vs) v mark := by unfold putAll; rw [List.foldl_append]; rfl
theorem putAll_eq (mark : Int) : ∀ (vs : List Int) (S : Int → Int → Bool) (a b : Int), putAll S mark vs a b = (S a b || decide (a ∈ vs ∧ b = mark ∧ 0 ≤ a ∧ a < 4 ∧ 1 ≤ mark))
  | [], S, a, b => by simp [putAll]
  | v :: vs, S, a, b => by
    rw [show putAll S mark (v :: vs) = putAll (stepS S v mark) mark vs from rfl, putAll_eq mark vs, stepS_eq]
    rw [Bool.eq_iff_iff]
    simp only [Bool.or_eq_true, decide_eq_true_eq, List.mem_cons]
    constructor
    · rintro ((h | ⟨rfl, h⟩) | ⟨h1, h2⟩)
      · exact .inl h
      · exact .inr ⟨.inl rfl, h⟩
      · exact .inr ⟨.inr h1, h2⟩
    · rintro (h | ⟨rfl | h1, h2⟩)
      · exact .inl (.inl h)
      · exact .inl (.inr ⟨rfl, h2⟩)
      · exact .inr ⟨h1, h2⟩
theorem rowS_mono {S S' : Int → Int → Bool} (h : ∀ a b, S a b = true → S' a b = true) (v k : Int) (hr : rowS S v k = true) : rowS S' v k = true := by
  unfold rowS at hr ⊢
  split at hr
  · rename_i hv; rw [if_pos hv]; exact h v k hr
  · cases hr
theorem lacksS_len {S S' : Int → Int → Bool} (h : ∀ a b, S a b = true → S' a b = true) (mark : Int) (vols : List Int) : (lacksS S' mark vols).length ≤ (lacksS S mark vols).length := by
  unfold lacksS
  rw [← List.countP_eq_length_filter, ← List.countP_eq_length_filter]
  refine List.countP_mono_left (fun x _ hx => ?_)
  cases hs : rowS S x mark with
  | true => rw [rowS_mono h x mark hs] at hx; exact hx
  | false => rfl
theorem lacksS_told {S : Int → Int → Bool} {mark : Int} {vols : List Int} {v : Int} (hv : v ∈ lacksS (putAll S mark (lacksS S mark vols)) mark vols) : ¬ (1 ≤ mark ∧ 0 ≤ v ∧ v < 4) := by
  rintro ⟨h1, h2, h3⟩
  unfold lacksS at hv
  rw [List.mem_filter] at hv
  obtain ⟨hv1, hv2⟩ := hv
  have hr : rowS (putAll S mark (lacksS S mark vols)) v mark = false := by simpa [lacksS] using hv2
  unfold rowS at hr
  rw [if_pos ⟨h2, h3⟩, putAll_eq, Bool.or_eq_false_iff] at hr
  have hl : v ∈ lacksS S mark vols := by
    unfold lacksS
    rw [List.mem_filter]
    refine ⟨hv1, ?_⟩
    unfold rowS
    rw [if_pos ⟨h2, h3⟩, hr.1]; rfl
  have := of_decide_eq_false hr.2
  exact this ⟨hl, rfl, h2, h3, h1⟩
theorem lacksS_at {S : Int → Int → Bool} {mark : Int} {vols : List Int} {i : Nat} (hi : i < vols.length) (h : rowS S vols[i] mark = false) : (lacksS S mark vols)[(lacksS S mark (vols.take i)).length]? = some vols[i] := by
  have : vols = vols.take i ++ vols[i] :: vols.drop (i + 1) := by rw [List.getElem_cons_drop, List.take_append_drop]
  have hl : lacksS S mark vols = lacksS S mark (vols.take i) ++ vols[i] :: lacksS S mark (vols.drop (i + 1)) := by
    conv => lhs; rw [this]
    unfold lacksS
    rw [List.filter_append, List.filter_cons_of_pos (by rw [h]; rfl)]
  rw [hl, List.getElem?_append_right (Nat.le_refl _), Nat.sub_self]
  rfl
theorem lacksS_succ {S : Int → Int → Bool} {mark : Int} {vols : List Int} {i : Nat} (hi : i < vols.length) : (lacksS S mark (vols.take (i + 1))).length = (lacksS S mark (vols.take i)).length + if rowS S vols[i] mark = true then 0 else 1 := by
  rw [← List.take_append_getElem hi, lacksS_snoc]
  split
  · rfl
  · simp
theorem lacksS_le (S : Int → Int → Bool) (mark : Int) (vols : List Int) : (lacksS S mark vols).length ≤ vols.length := List.length_filter_le _ _
theorem contains_snoc (l : List Int) (x y : Int) : (l ++ [x]).contains y = (l.contains y || decide (x = y)) := by
  rw [Bool.eq_iff_iff]
  simp only [List.contains_eq_mem, Bool.or_eq_true, decide_eq_true_eq, List.mem_append, List.mem_singleton]
  exact or_congr Iff.rfl eq_comm
set_option maxHeartbeats 16000000 in
set_option maxRecDepth 10000 in
theorem mlackslaw_ro (a a1 : Option Addr) (n c n1 c1 : Nat) (l : List MOp) (vols : List Int) (mark : Int) (hn : n = l.length) (hn1 : n1 = vols.length) (hw : ∀ o ∈ l, (Lit.int .i64 o.2.2).wf = true) :
    RO G 5 [.slice a n c, .slice a1 n1 c1, .int .i64 mark] (fun h => readS a n 3 (l.flatMap encM) h ∧ readI a1 n1 vols h) (.bool true) := by
  refine RO.enter Try.func5 rfl (by decide) rfl Try.ntmps5 rfl (fun A hu hA => ?_) (up_and (up_readS _ _ _ _) (up_readS _ _ _ _))
  have hE : ∀ {L}, A ∈ L → Ent L (readS a n 3 (l.flatMap encM)) := fun m => Ent.mem m hu fun k x => (hA k x).1
  have hE1 : ∀ {L}, A ∈ L → Ent L (readI a1 n1 vols) := fun m => Ent.mem m hu fun k x => (hA k x).2
  repeat (first | refine GD ?_ | refine NW fun _ => ?_)
  refine WL.step rfl (OP.callRO rfl rfl mawake_ro (fun _ _ => trivial) rfl rfl ?_)
  by_cases h200 : 200 < n
  · repeat (first | refine GD ?_ | refine NW fun _ => ?_)
    refine WL.step rfl (OP.callRO rfl rfl mawake_ro (fun _ _ => trivial) rfl rfl ?_)
    repeat (first | refine GD ?_ | refine NW fun _ => ?_)
    exact ret1 rfl ⟨rfl, MM⟩
  by_cases h20 : 20 < n1
  · repeat (first | refine GD ?_ | refine NW fun _ => ?_)
    refine WL.step rfl (OP.callRO rfl rfl mawake_ro (fun _ _ => trivial) rfl rfl ?_)
    repeat (first | refine GD ?_ | refine NW fun _ => ?_)
    exact ret1 rfl ⟨rfl, MM⟩
  repeat (first | refine GD ?_ | refine NW fun _ => ?_)
  rename_i p
  refine WC.imp (mtabNil p) ?_
  refine WC.loop (σ := Nat) (fun k => k ≤ n)
    (fun k => [(0, .val (.slice a n c)), (1, .val (.slice a1 n1 c1)), (2, .val (.int .i64 mark)), (7, .val (.pointer (some ⟨p, 0, none⟩))), (34, .val (.int .i64 n)), (35, .val (.int .i64 k))])
    (fun k => [mtab p (playS (l.take k)), A]) (fun k => n - k) 0 (Nat.zero_le _) ⟨rfl, rfl, rfl, rfl, rfl, rfl, trivial⟩ (Imp.refl _) ?_
  rintro k hk
  by_cases hlt : k < n
  · have hlk : k < l.length := by omega
    have hsn : playS (l.take (k + 1)) = stepS (playS (l.take k)) l[k].2.1 l[k].2.2 := by rw [← List.take_append_getElem hlk, playS_snoc]
    refine WC.fact (Ent.some (hE MM) (by omega)) ?_
    rintro ⟨b, off, rfl⟩
    have hel : ∀ {L} (i : Nat) (v : Value), Nat.blt i 3 = true → (encM l[k])[i]? = some v → A ∈ L → Ent L (cellAt b (off + k * 3 + i) v) := fun i v hi hv m => Ent.elF encM_len (hE m) hlk hi hv
    generalize l[k] = o at *
    obtain ⟨kd, v, m⟩ := o
    dsimp only at hsn
    repeat (first | refine GD ?_ | refine NW fun _ => ?_)
    refine RD 11 12 (_) ?_
    refine WP 0 ?_
    refine WP 1 ?_
    refine WP 2 ?_
    refine WP 3 ?_
    refine WP 4 ?_
    refine VL 5 (.int .i64 v) rfl rfl rfl rfl (.inl ⟨rfl, hel 1 _ rfl rfl MM⟩) ?_
    refine WP 6 ?_
    refine WP 7 ?_
    refine WP 8 ?_
    refine WP 9 ?_
    refine VL 10 (.int .i64 m) rfl rfl rfl rfl (.inl ⟨rfl, hel 2 _ rfl rfl MM⟩) ?_
    refine WH.only 11 rfl rfl (by kernel_rfl) rfl (OP.call (pre := [mtab p (playS (l.take k))]) rfl rfl (mput_ok p _ v m) PS rfl rfl (fun x M hM => ?_))
    obtain ⟨E, rfl⟩ := hM.one
    refine ⟨(fun h => nomatch h), ?_⟩
    refine DN ?_
    repeat (first | refine GD ?_ | refine NW fun _ => ?_)
    exact ⟨k + 1, by omega, by omega, ⟨rfl, rfl, rfl, rfl, rfl, rfl, trivial⟩, by rw [hsn]; exact Imp.dropE E [mtab p (stepS (playS (l.take k)) v m)] [A]⟩
  obtain rfl : k = l.length := by omega
  have hF := playFew hw (by omega)
  rw [List.take_length]
  generalize playS l = S at *
  repeat (first | refine GD ?_ | refine NW fun _ => ?_)
  refine WL.step rfl (OP.callRT rfl rfl (mlacks_rt p S mark a1 n1 c1 vols hn1 (by omega)) (Ent.and (Ent.mem (A := mtab p S) MM (up_mtab _ _) fun _ a => a) (hE1 MM)) rfl rfl ?_)
  rintro _ _ ⟨a9, cap9, rfl, rfl⟩
  repeat (first | refine GD ?_ | refine NW fun _ => ?_)
  refine WC.loop (σ := Nat) (fun i => i ≤ n1)
    (fun i => [(0, .val (.slice a n c)), (1, .val (.slice a1 n1 c1)), (2, .val (.int .i64 mark)), (7, .val (.pointer (some ⟨p, 0, none⟩))), (9, .val (.slice a9 (lacksS S mark vols).length cap9)), (10, .val (.int .i64 (lacksS S mark (vols.take i)).length)), (56, .val (.int .i64 n1)), (57, .val (.int .i64 i))])
    (fun _ => [ownS a9 (lacksS S mark vols).length cap9 3 1 ((lacksS S mark vols).map iV), mtab p S, A]) (fun i => n1 - i) 0 (Nat.zero_le _) ⟨rfl, rfl, rfl, rfl, rfl, rfl, rfl, rfl, trivial⟩ II ?_
  · have hL := lacksS_le S mark vols
    rintro i hi
    by_cases hli : i < n1
    · have hlv : i < vols.length := by omega
      have hsu := lacksS_succ (S := S) (mark := mark) hlv
      have hat := lacksS_at (S := S) (mark := mark) hlv
      have hcl : (lacksS S mark (vols.take i)).length ≤ (lacksS S mark vols).length := by
        have : lacksS S mark vols = lacksS S mark (vols.take i) ++ lacksS S mark (vols.drop i) := by unfold lacksS; rw [← List.filter_append, List.take_append_drop]
        rw [this, List.length_append]; omega
      refine WC.fact (Ent.some (hE1 MM) (by omega)) ?_
      rintro ⟨b1, off1, rfl⟩
      have hel1 : ∀ {L}, A ∈ L → Ent L (cellAt b1 (off1 + i * 1) (iV vols[i])) := fun m => Ent.elem (hE1 m) rfl (int_get hlv)
      generalize vols[i] = v at *
      repeat (first | refine GD ?_ | refine NW fun _ => ?_)
      refine WL.step rfl (OP.load1 (v := .int .i64 v) rfl rfl rfl rfl (hel1 MM) rfl rfl ?_)
      refine WL.step rfl (OP.callRT rfl rfl (mof_rt p S v hF) (Ent.mem (A := mtab p S) MM (up_mtab _ _) fun _ a => a) rfl rfl ?_)
      rintro _ _ ⟨aO, capO, o, ho, rfl, rfl⟩
      refine WL.fact (L := _) (Ent.ownLe (n := o.length) (cap := capO) (T := 3) (size := 1) (cs := o.map iV) MM) (fun _ => ?_)
      have hor : o.contains mark = rowS S v mark := by
        rw [Bool.eq_iff_iff, List.contains_eq_mem, decide_eq_true_eq]
        exact ho.2 mark
      have holen : o.length ≤ 100000 := by
        refine Nat.le_trans (length_le_of_mem (b := keysM l) (ho.1.imp fun h e => by omega) (fun k hk => ?_)) hF.len
        have := (ho.2 k).1 hk
        unfold rowS at this
        split at this
        · exact hF.mem v k this
        · cases this
      repeat (first | refine GD ?_ | refine NW fun _ => ?_)
      refine WC.loop (σ := Nat) (fun j => j ≤ o.length)
        (fun j => [(0, .val (.slice a n c)), (1, .val (.slice (some ⟨b1, off1, none⟩) n1 c1)), (2, .val (.int .i64 mark)), (7, .val (.pointer (some ⟨p, 0, none⟩))), (9, .val (.slice a9 (lacksS S mark vols).length cap9)), (10, .val (.int .i64 (lacksS S mark (vols.take i)).length)), (56, .val (.int .i64 n1)), (57, .val (.int .i64 i)), (11, .val (.int .i64 i)), (12, .val (.bool ((o.take j).contains mark))), (13, .val (.slice aO o.length capO)), (67, .val (.int .i64 o.length)), (68, .val (.int .i64 j))])
        (fun _ => [ownS aO o.length capO 3 1 (o.map iV), ownS a9 (lacksS S mark vols).length cap9 3 1 ((lacksS S mark vols).map iV), mtab p S, A]) (fun j => o.length - j) 0 (Nat.zero_le _) ⟨rfl, rfl, rfl, rfl, rfl, rfl, rfl, rfl, rfl, rfl, rfl, rfl, rfl, trivial⟩ II ?_
      rintro j hj
      by_cases hlj : j < o.length
      · have hcs : (o.take (j + 1)).contains mark = ((o.take j).contains mark || decide (o[j] = mark)) := by rw [← List.take_append_getElem hlj, contains_snoc]
        refine WC.fact (Ent.some (Ent.own (T := 3) (cap := capO) (cs := o.map iV) MM) (by omega)) ?_
        rintro ⟨bO, offO, rfl⟩
        have helO : ∀ {L}, ownS (some ⟨bO, offO, none⟩) o.length capO 3 1 (o.map iV) ∈ L → Ent L (cellAt bO (offO + j * 1) (iV o[j])) := fun m => Ent.elem (Ent.own m) rfl (int_get hlj)
        generalize o[j] = x at *
        cases hcb : (o.take j).contains mark with
        | true =>
          rw [hcb] at hcs
          repeat (first | refine GD ?_ | refine NW fun _ => ?_)
          refine ⟨j + 1, by omega, by omega, ⟨rfl, rfl, rfl, rfl, rfl, rfl, rfl, rfl, rfl, by rw [hcs]; rfl, rfl, rfl, rfl, trivial⟩, II⟩
        | false =>
          rw [hcb, Bool.false_or] at hcs
          repeat (first | refine GD ?_ | refine NW fun _ => ?_)
          refine WL.guardT rfl rfl rfl rfl (OP.load1 (v := .int .i64 x) rfl rfl rfl rfl (helO MM) rfl rfl ?_)
          by_cases hxm : x = mark
          · rw [decide_eq_true hxm] at hcs
            repeat (first | refine GD ?_ | refine NW fun _ => ?_)
            refine ⟨j + 1, by omega, by omega, ⟨rfl, rfl, rfl, rfl, rfl, rfl, rfl, rfl, rfl, by rw [hcs]; rfl, rfl, rfl, rfl, trivial⟩, II⟩
          · rw [decide_eq_false hxm] at hcs
            repeat (first | refine GD ?_ | refine NW fun _ => ?_)
            refine ⟨j + 1, by omega, by omega, ⟨rfl, rfl, rfl, rfl, rfl, rfl, rfl, rfl, rfl, by rw [hcs]; rfl, rfl, rfl, rfl, trivial⟩, II⟩
      · obtain rfl : j = o.length := by omega
        rw [List.take_length, hor]
        cases hrv : rowS S v mark with
        | true =>
          rw [hrv, if_pos rfl, Nat.add_zero] at hsu
          repeat (first | refine GD ?_ | refine NW fun _ => ?_)
          refine ⟨i + 1, by omega, by omega, ⟨rfl, rfl, rfl, rfl, rfl, by rw [hsu]; rfl, rfl, rfl, trivial⟩, II⟩
        | false =>
          rw [hrv, if_neg (by decide)] at hsu
          have hat := hat hrv
          have hlt2 : (lacksS S mark (vols.take i)).length < (lacksS S mark vols).length := by
            rcases Nat.lt_or_ge (lacksS S mark (vols.take i)).length (lacksS S mark vols).length with h | h
            · exact h
            · rw [List.getElem?_eq_none h] at hat; cases hat
          refine WC.fact (Ent.some (Ent.own (T := 3) (cap := cap9) (cs := (lacksS S mark vols).map iV) MM) (by omega)) ?_
          rintro ⟨b9, off9, rfl⟩
          have hel9 : ∀ {L}, ownS (some ⟨b9, off9, none⟩) (lacksS S mark vols).length cap9 3 1 ((lacksS S mark vols).map iV) ∈ L → Ent L (cellAt b9 (off9 + (lacksS S mark (vols.take i)).length * 1) (iV v)) := fun m => Ent.elem (Ent.own m) rfl (by rw [List.getElem?_map, Nat.mul_one, hat]; rfl)
          generalize (lacksS S mark (vols.take i)).length = q at *
          generalize lacksS S mark vols = W at *
          repeat (first | refine GD ?_ | refine NW fun _ => ?_)
          have hnle : ¬ ((W.length : Int) ≤ (q : Int)) := by omega
          refine RD 15 15 (_) ?_
          refine WP 0 ?_
          refine WP 1 ?_
          refine WP 2 ?_
          refine WP 3 ?_
          rw [decide_eq_false hnle]
          refine WP 4 ?_
          refine WP 5 ?_
          refine WP 6 ?_
          refine WP 7 ?_
          refine VG 8 rfl (Quiet.load (v := iV v) rfl rfl rfl (.inl ⟨rfl, hel9 MM⟩)) ?_
          refine WP 9 ?_
          refine WP 10 ?_
          refine WP 11 ?_
          refine VG 12 rfl (Quiet.load (v := iV v) rfl rfl rfl (.inl ⟨rfl, hel1 MM⟩)) ?_
          refine WP 13 ?_
          refine WP 14 ?_
          refine DN ?_
          rw [decide_eq_true (rfl : v = v)]
          repeat (first | refine GD ?_ | refine NW fun _ => ?_)
          refine ⟨i + 1, by omega, by omega, ⟨rfl, rfl, rfl, rfl, rfl, by rw [hsu]; rfl, rfl, rfl, trivial⟩, II⟩
    · obtain rfl : i = vols.length := by omega
      rw [List.take_length]
      obtain ⟨q, hq⟩ : ∃ q, (lacksS S mark vols).length = q := ⟨_, rfl⟩
      rw [hq] at hL ⊢
      repeat (first | refine GD ?_ | refine NW fun _ => ?_)
      refine WC.loop (σ := Nat) (fun i => i ≤ q)
        (fun i => [(0, .val (.slice a n c)), (1, .val (.slice a1 n1 c1)), (2, .val (.int .i64 mark)), (7, .val (.pointer (some ⟨p, 0, none⟩))), (9, .val (.slice a9 q cap9)), (106, .val (.int .i64 q)), (107, .val (.int .i64 i))])
        (fun i => [ownS a9 q cap9 3 1 ((lacksS S mark vols).map iV), mtab p (putAll S mark ((lacksS S mark vols).take i)), A]) (fun i => q - i) 0 (Nat.zero_le _) ⟨rfl, rfl, rfl, rfl, rfl, rfl, rfl, trivial⟩ II ?_
      rintro i hi
      by_cases hli : i < q
      · have hlv : i < (lacksS S mark vols).length := by omega
        have hsn : putAll S mark ((lacksS S mark vols).take (i + 1)) = stepS (putAll S mark ((lacksS S mark vols).take i)) (lacksS S mark vols)[i] mark := by rw [← List.take_append_getElem hlv, putAll_snoc]
        refine WC.fact (Ent.some (Ent.own (T := 3) (cap := cap9) (n := q) (cs := (lacksS S mark vols).map iV) MM) (by omega)) ?_
        rintro ⟨b9, off9, rfl⟩
        have hel9 : ∀ {L}, ownS (some ⟨b9, off9, none⟩) q cap9 3 1 ((lacksS S mark vols).map iV) ∈ L → Ent L (cellAt b9 (off9 + i * 1) (iV (lacksS S mark vols)[i])) := fun m => Ent.elem (Ent.own m) rfl (int_get hlv)
        generalize (lacksS S mark vols)[i] = v at *
        repeat (first | refine GD ?_ | refine NW fun _ => ?_)
        refine WL.step rfl (OP.load1 (v := .int .i64 v) rfl rfl rfl rfl (hel9 MM) rfl rfl ?_)
        repeat (first | refine GD ?_ | refine NW fun _ => ?_)
        refine WL.step rfl (OP.call (pre := [mtab p (putAll S mark ((lacksS S mark vols).take i))]) rfl rfl (mput_ok p _ v mark) PS rfl rfl ?_)
        intro x M hM
        obtain ⟨E, rfl⟩ := hM.one
        repeat (first | refine GD ?_ | refine NW fun _ => ?_)
        refine ⟨i + 1, by omega, by omega, ⟨rfl, rfl, rfl, rfl, rfl, rfl, rfl, trivial⟩, by rw [hsn]; exact Imp.trans (Imp.dropE E _ _) II⟩
      · obtain rfl : i = q := by omega
        rw [List.take_of_length_le (by omega)]
        have hle : (lacksS (putAll S mark (lacksS S mark vols)) mark vols).length ≤ i := by
          rw [← hq]
          exact lacksS_len (S := S) (fun a b h => by rw [putAll_eq, h]; rfl) mark vols
        have htold : ∀ {v}, v ∈ lacksS (putAll S mark (lacksS S mark vols)) mark vols → ¬ (1 ≤ mark ∧ 0 ≤ v ∧ v < 4) := lacksS_told
        generalize putAll S mark (lacksS S mark vols) = S2 at *
        have hL2 := lacksS_le S2 mark vols
        repeat (first | refine GD ?_ | refine NW fun _ => ?_)
        refine WL.step rfl (OP.callRT rfl rfl (mlacks_rt p S2 mark a1 n1 c1 vols hn1 (by omega)) (Ent.and (Ent.mem (A := mtab p S2) MM (up_mtab _ _) fun _ a => a) (hE1 MM)) rfl rfl ?_)
        rintro _ _ ⟨a16, cap16, rfl, rfl⟩
        generalize lacksS S2 mark vols = W at *
        repeat (first | refine GD ?_ | refine NW fun _ => ?_)
        refine WC.loop (σ := Nat) (fun j => j ≤ W.length)
          (fun j => [(2, .val (.int .i64 mark)), (9, .val (.slice a9 i cap9)), (16, .val (.slice a16 W.length cap16)), (123, .val (.int .i64 W.length)), (124, .val (.int .i64 j))])
          (fun _ => [ownS a16 W.length cap16 3 1 (W.map iV), A]) (fun j => W.length - j) 0 (Nat.zero_le _) ⟨rfl, rfl, rfl, rfl, rfl, trivial⟩ II ?_
        rintro j hj
        by_cases hlj : j < W.length
        · have hv := htold (List.getElem_mem hlj)
          refine WC.fact (Ent.some (Ent.own (T := 3) (cap := cap16) (cs := W.map iV) MM) (by omega)) ?_
          rintro ⟨b16, off16, rfl⟩
          have helW : ∀ {L}, ownS (some ⟨b16, off16, none⟩) W.length cap16 3 1 (W.map iV) ∈ L → Ent L (cellAt b16 (off16 + j * 1) (iV W[j])) := fun m => Ent.elem (Ent.own m) rfl (int_get hlj)
          generalize W[j] = v at *
          by_cases g1 : 1 ≤ mark
          rotate_left
          · repeat (first | refine GD ?_ | refine NW fun _ => ?_)
            exact ⟨j + 1, by omega, by omega, ⟨rfl, rfl, rfl, rfl, rfl, trivial⟩, II⟩
          repeat (first | refine GD ?_ | refine NW fun _ => ?_)
          refine WL.guardT rfl rfl rfl rfl (OP.load1 (v := .int .i64 v) rfl rfl rfl rfl (helW MM) rfl rfl ?_)
          by_cases g2 : 0 ≤ v
          rotate_left
          · repeat (first | refine GD ?_ | refine NW fun _ => ?_)
            exact ⟨j + 1, by omega, by omega, ⟨rfl, rfl, rfl, rfl, rfl, trivial⟩, II⟩
          repeat (first | refine GD ?_ | refine NW fun _ => ?_)
          refine WL.guardT rfl rfl rfl rfl (OP.load1 (v := .int .i64 v) rfl rfl rfl rfl (helW MM) rfl rfl ?_)
          have g3 : ¬ v < 4 := fun h => hv ⟨g1, g2, h⟩
          repeat (first | refine GD ?_ | refine NW fun _ => ?_)
          exact ⟨j + 1, by omega, by omega, ⟨rfl, rfl, rfl, rfl, rfl, trivial⟩, II⟩
        · repeat (first | refine GD ?_ | refine NW fun _ => ?_)
          exact ret1 rfl ⟨rfl, MM⟩
end Go.Proofs.Ytacgheafbkfciaa
