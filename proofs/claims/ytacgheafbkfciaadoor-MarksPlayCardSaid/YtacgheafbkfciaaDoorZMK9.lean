/- Contracts of functions of the given program, and plain laws: parts of the proofs of laws. -/
import Derived.Test.YtacgheafbkfciaaDoorZMK4
import Derived.Test.YtacgheafbkfciaaDoorZMK8
/- Contracts of functions of the given program, and plain laws on what they compute: parts of the proofs of laws. -/

namespace Go.Proofs.YtacgheafbkfciaaDoor
open Go Go.GL

/-! the document's table of markers -/
abbrev RHid := (Option Addr × Nat) × (Option Addr × Nat) × (Option Addr × Nat) × (Option Addr × Nat)
def rtabL (q : Nat) (Lf : Int → List Int) (x : RHid) : List Assn :=
  [blk q [.slice x.1.1 (Lf 0).length x.1.2, .slice x.2.1.1 (Lf 1).length x.2.1.2, .slice x.2.2.1.1 (Lf 2).length x.2.2.1.2, .slice x.2.2.2.1 (Lf 3).length x.2.2.2.2] 43,
   ownS x.1.1 (Lf 0).length x.1.2 3 1 ((Lf 0).map iV), ownS x.2.1.1 (Lf 1).length x.2.1.2 3 1 ((Lf 1).map iV), ownS x.2.2.1.1 (Lf 2).length x.2.2.1.2 3 1 ((Lf 2).map iV), ownS x.2.2.2.1 (Lf 3).length x.2.2.2.2 3 1 ((Lf 3).map iV)]
def rtab (q : Nat) (Lf : Int → List Int) : Assn := exA (rtabL q Lf)
theorem up_rtab (q : Nat) (Lf : Int → List Int) : Up (rtab q Lf) := up_exA _
def noL : Int → List Int := fun _ => []
theorem rtabNil (q : Nat) {N : List Assn} : Imp (blk q [.slice none 0 0, .slice none 0 0, .slice none 0 0, .slice none 0 0] 43 :: N) (rtab q noL :: N) := by
  refine Imp.trans ?_ (Imp.fold (Ls := rtabL q noL) ((none, 0), (none, 0), (none, 0), (none, 0)))
  refine Imp.cons ?_
  exact Imp.trans (Imp.nilS 3 1) (Imp.cons (Imp.trans (Imp.nilS 3 1) (Imp.cons (Imp.trans (Imp.nilS 3 1) (Imp.cons (Imp.nilS 3 1))))))
theorem rtabFold (q : Nat) (Lf : Int → List Int) (x : RHid) {f0 f1 f2 f3 : List Int} {n0 n1 n2 n3 : Nat} {N : List Assn} (e0 : Lf 0 = f0) (e1 : Lf 1 = f1) (e2 : Lf 2 = f2) (e3 : Lf 3 = f3) (m0 : n0 = f0.length) (m1 : n1 = f1.length) (m2 : n2 = f2.length) (m3 : n3 = f3.length) :
    Imp (blk q [.slice x.1.1 n0 x.1.2, .slice x.2.1.1 n1 x.2.1.2, .slice x.2.2.1.1 n2 x.2.2.1.2, .slice x.2.2.2.1 n3 x.2.2.2.2] 43 ::
      ownS x.1.1 n0 x.1.2 3 1 (f0.map iV) :: ownS x.2.1.1 n1 x.2.1.2 3 1 (f1.map iV) :: ownS x.2.2.1.1 n2 x.2.2.1.2 3 1 (f2.map iV) :: ownS x.2.2.2.1 n3 x.2.2.2.2 3 1 (f3.map iV) :: N) (rtab q Lf :: N) := by
  subst m0 m1 m2 m3 e0 e1 e2 e3
  exact Imp.fold (Ls := rtabL q Lf) x
set_option maxRecDepth 10000 in
theorem rin_ro (v : Int) : RO G 25 [.int .i64 v] (fun _ => True) (.bool (decide (0 ≤ v ∧ v < 4))) := by
  refine RO.enter Tryd.func25 rfl (by decide) rfl Tryd.ntmps25 rfl (fun A hu hA => ?_) (fun _ _ _ h => h)
  by_cases h0 : 0 ≤ v
  · by_cases h3 : v ≤ 3
    · rw [decide_eq_true (show 0 ≤ v ∧ v < 4 by omega)]
      repeat (first | refine GD ?_ | refine NW fun _ => ?_)
      exact ret1 rfl ⟨rfl, MM⟩
    · rw [decide_eq_false (show ¬ (0 ≤ v ∧ v < 4) by omega)]
      repeat (first | refine GD ?_ | refine NW fun _ => ?_)
      exact ret1 rfl ⟨rfl, MM⟩
  · rw [decide_eq_false (show ¬ (0 ≤ v ∧ v < 4) by omega)]
    repeat (first | refine GD ?_ | refine NW fun _ => ?_)
    exact ret1 rfl ⟨rfl, MM⟩
set_option maxRecDepth 10000 in
theorem rhas_ro (a : Option Addr) (n c : Nat) (l : List Int) (m : Int) (hn : n = l.length) (hs : n < 1000000) : RO G 26 [.slice a n c, .int .i64 m] (readI a n l) (.bool (l.contains m)) := by
  refine RO.enter Tryd.func26 rfl (by decide) rfl Tryd.ntmps26 rfl (fun A hu hA => ?_) (up_readS _ _ _ _)
  have hE : ∀ {L}, A ∈ L → Ent L (readI a n l) := fun m => Ent.mem m hu hA
  repeat (first | refine GD ?_ | refine NW fun _ => ?_)
  refine WC.loop (σ := Nat) (fun k => k ≤ n ∧ ∀ x ∈ l.take k, x ≠ m)
    (fun k => [(0, .val (.slice a n c)), (1, .val (.int .i64 m)), (7, .val (.int .i64 n)), (8, .val (.int .i64 k))])
    (fun k => [A]) (fun k => n - k) 0 ⟨Nat.zero_le _, by simp⟩ ⟨rfl, rfl, rfl, rfl, trivial⟩ (Imp.refl _) ?_
  rintro k ⟨hk, hall⟩
  by_cases hlt : k < n
  · have hlk : k < l.length := by omega
    have hsn : l.take (k + 1) = l.take k ++ [l[k]] := (List.take_append_getElem hlk).symm
    have hin := List.getElem_mem hlk
    refine WC.fact (Ent.some (hE MM) (by omega)) ?_
    rintro ⟨b, off, rfl⟩
    have hel : ∀ {L}, A ∈ L → Ent L (cellAt b (off + k * 1) (iV l[k])) := fun m => Ent.elem (hE m) rfl (int_get hlk)
    generalize l[k] = x at *
    repeat (first | refine GD ?_ | refine NW fun _ => ?_)
    refine WL.step rfl (OP.load1 (v := .int .i64 x) rfl rfl rfl rfl (hel MM) rfl rfl ?_)
    by_cases hxm : x = m
    · subst hxm
      rw [show l.contains x = true by simp [hin]]
      have hxx : x = x := rfl
      repeat (first | refine GD ?_ | refine NW fun _ => ?_)
      exact ret1 rfl ⟨rfl, MM⟩
    · repeat (first | refine GD ?_ | refine NW fun _ => ?_)
      refine ⟨k + 1, ⟨by omega, fun y hy => ?_⟩, by omega, ⟨rfl, rfl, rfl, rfl, trivial⟩, II⟩
      rw [hsn] at hy
      rcases List.mem_append.1 hy with h | h
      · exact hall y h
      · rw [List.mem_singleton.1 h]; exact hxm
  · obtain rfl : k = n := by omega
    rw [List.take_of_length_le (by omega)] at hall
    rw [show l.contains m = false by simp only [List.contains_eq_mem, decide_eq_false_iff_not]; exact fun h => hall m h rfl]
    repeat (first | refine GD ?_ | refine NW fun _ => ?_)
    exact ret1 rfl ⟨rfl, MM⟩
/-- how many are less, ahead -/
def insM (l : List Int) (m : Int) : List Int := l.takeWhile (fun x => decide (x < m)) ++ m :: l.dropWhile (fun x => decide (x < m))
def atM (l : List Int) (m : Int) : Nat := (l.takeWhile (fun x => decide (x < m))).length
theorem insM_eq (l : List Int) (m : Int) : insM l m = l.take (atM l m) ++ [m] ++ l.drop (atM l m) := by
  have h : ∀ (l : List Int) (p : Int → Bool), l.take (l.takeWhile p).length = l.takeWhile p ∧ l.drop (l.takeWhile p).length = l.dropWhile p := by
    intro l p
    induction l with
    | nil => exact ⟨rfl, rfl⟩
    | cons x l ih =>
      cases hp : p x with
      | true => simp [hp, ih.1, ih.2]
      | false => simp [hp]
  unfold insM atM
  rw [(h l _).1, (h l _).2]
  simp
theorem atM_le (l : List Int) (m : Int) : atM l m ≤ l.length := List.takeWhile_prefix _ |>.length_le
theorem atM_lt {l : List Int} {m : Int} : ∀ {k : Nat}, k < atM l m → ∃ h : k < l.length, l[k] < m := by
  unfold atM
  induction l with
  | nil => intro k h; simp at h
  | cons x l ih =>
    intro k h
    by_cases hx : x < m
    · rw [List.takeWhile_cons_of_pos (by simpa using hx)] at h
      cases k with
      | zero => exact ⟨by simp, hx⟩
      | succ k =>
        obtain ⟨h1, h2⟩ := ih (k := k) (by simpa using h)
        exact ⟨by simpa using h1, by simpa using h2⟩
    · rw [List.takeWhile_cons_of_neg (by simpa using hx)] at h
      simp at h
theorem atM_at {l : List Int} {m y : Int} (h : l[atM l m]? = some y) : m ≤ y := by
  unfold atM at h
  induction l with
  | nil => simp at h
  | cons x l ih =>
    by_cases hx : x < m
    · rw [List.takeWhile_cons_of_pos (by simpa using hx), List.length_cons, List.getElem?_cons_succ] at h
      exact ih h
    · rw [List.takeWhile_cons_of_neg (by simpa using hx), List.length_nil, List.getElem?_cons_zero] at h
      cases h
      omega
theorem insM_len (l : List Int) (m : Int) : (insM l m).length = l.length + 1 := by
  have := atM_le l m
  rw [insM_eq]
  simp
  omega
theorem insM_mem (l : List Int) (m x : Int) : x ∈ insM l m ↔ x = m ∨ x ∈ l := by
  have h : x ∈ l ↔ x ∈ l.takeWhile (fun x => decide (x < m)) ∨ x ∈ l.dropWhile (fun x => decide (x < m)) := by
    rw [← List.mem_append, List.takeWhile_append_dropWhile]
  unfold insM
  rw [List.mem_append, List.mem_cons, h]
  constructor
  · rintro (h | h | h)
    · exact .inr (.inl h)
    · exact .inl h
    · exact .inr (.inr h)
  · rintro (h | h | h)
    · exact .inr (.inl h)
    · exact .inl h
    · exact .inr (.inr h)
theorem insM_sorted {l : List Int} {m : Int} (hl : l.Pairwise (· < ·)) (hm : m ∉ l) : (insM l m).Pairwise (· < ·) := by
  unfold insM
  induction l with
  | nil => simp
  | cons x l ih =>
    have hx : ∀ {z}, z ∈ l → x < z := fun h => List.rel_of_pairwise_cons hl h
    by_cases h : x < m
    · rw [List.takeWhile_cons_of_pos (by simpa using h), List.dropWhile_cons_of_pos (by simpa using h), List.cons_append, List.pairwise_cons]
      refine ⟨fun y hy => ?_, ih (List.Pairwise.of_cons hl) (fun h2 => hm (List.mem_cons_of_mem _ h2))⟩
      rcases (insM_mem l m y).1 hy with rfl | hy
      · exact h
      · exact hx hy
    · rw [List.takeWhile_cons_of_neg (by simpa using h), List.dropWhile_cons_of_neg (by simpa using h), List.nil_append, List.pairwise_cons]
      refine ⟨fun y hy => ?_, hl⟩
      have hne : x ≠ m := fun e => hm (by rw [e]; exact List.mem_cons_self)
      rcases List.mem_cons.1 hy with rfl | hy
      · omega
      · have := hx hy; omega
theorem allOne_intsR : ∀ (l : List Int), allOne (l.map iV) = true
  | [] => rfl
  | _ :: l => allOne_intsR l
def putL (Lf : Int → List Int) (v m : Int) : Int → List Int := fun a => if a = v then insM (Lf v) m else Lf a
theorem putL_at (Lf : Int → List Int) (v m : Int) : putL Lf v m v = insM (Lf v) m := if_pos rfl
theorem putL_ne {Lf : Int → List Int} {v m a : Int} (h : a ≠ v) : putL Lf v m a = Lf a := if_neg h
def rputE (Lf : Int → List Int) (v m : Int) : Int × (Int → List Int) := if ¬ (0 ≤ v ∧ v < 4) then (5, Lf) else if m < 1 then (1, Lf) else if (Lf v).contains m = true then (0, Lf) else (0, putL Lf v m)
set_option maxHeartbeats 16000000 in
set_option maxRecDepth 10000 in
theorem rput_ok (q : Nat) (Lf : Int → List Int) (v m : Int) (hs : ∀ v, (Lf v).length < 100000) :
    Triple G 14 [.pointer (some ⟨q, 0, none⟩), .int .i64 v, .int .i64 m] [rtab q Lf] (fun x M => x = .int .i64 (rputE Lf v m).1 ∧ M = [rtab q (rputE Lf v m).2]) := by
  refine Triple.enter Tryd.func14 rfl (by decide) rfl Tryd.ntmps14 rfl (fun F => ?_)
  have h0 := hs 0
  have h1 := hs 1
  have h2 := hs 2
  have h3 := hs 3
  repeat (first | refine GD ?_ | refine NW fun _ => ?_)
  refine WL.step rfl (OP.callRO rfl rfl (rin_ro v) (fun _ _ => trivial) rfl rfl ?_)
  by_cases hv : 0 ≤ v ∧ v < 4
  rotate_left
  · rw [decide_eq_false hv, show rputE Lf v m = (5, Lf) by unfold rputE; rw [if_pos hv]]
    repeat (first | refine GD ?_ | refine NW fun _ => ?_)
    exact ret1 rfl ⟨_, ⟨rfl, rfl⟩, II⟩
  rw [decide_eq_true hv]
  by_cases hm : m < 1
  · rw [show rputE Lf v m = (1, Lf) by unfold rputE; rw [if_neg (by omega), if_pos hm]]
    repeat (first | refine GD ?_ | refine NW fun _ => ?_)
    exact ret1 rfl ⟨_, ⟨rfl, rfl⟩, II⟩
  have hE : rputE Lf v m = if (Lf v).contains m = true then (0, Lf) else (0, putL Lf v m) := by unfold rputE; rw [if_neg (by omega), if_neg hm]
  repeat (first | refine GD ?_ | refine NW fun _ => ?_)
  refine WL.open (M := [F]) (Ls := rtabL q Lf) (show Imp _ (rtab q Lf :: [F]) from II) (fun x => ?_)
  unfold rtabL
  dsimp only [List.cons_append, List.nil_append]
  obtain ⟨⟨a0, c0⟩, ⟨a1, c1⟩, ⟨a2, c2⟩, ⟨a3, c3⟩⟩ := x
  dsimp only
  have hv : v = 0 ∨ v = 1 ∨ v = 2 ∨ v = 3 := by omega
  rcases hv with rfl | rfl | rfl | rfl
  · repeat (first | refine GD ?_ | refine NW fun _ => ?_)
    refine WL.step rfl (OP.callRO rfl rfl (rhas_ro a0 (Lf 0).length c0 (Lf 0) m rfl (by omega)) (Ent.own (T := 3) (cap := c0) MM) rfl rfl ?_)
    cases hc : (Lf 0).contains m with
    | true =>
      rw [hE, if_pos hc]
      repeat (first | refine GD ?_ | refine NW fun _ => ?_)
      refine ret1 rfl ⟨[rtab q Lf], ⟨rfl, rfl⟩, ?_⟩
      exact Imp.trans II (rtabFold q Lf ((a0, c0), (a1, c1), (a2, c2), (a3, c3)) rfl rfl rfl rfl rfl rfl rfl rfl)
    | false =>
      rw [hE, if_neg (by rw [hc]; decide)]
      have hal := atM_le (Lf 0) m
      have hatl := fun {k : Nat} => atM_lt (l := Lf 0) (m := m) (k := k)
      have hata := fun {y : Int} => atM_at (l := Lf 0) (m := m) (y := y)
      have hie := insM_eq (Lf 0) m
      have hil := insM_len (Lf 0) m
      generalize atM (Lf 0) m = u at *
      repeat (first | refine GD ?_ | refine NW fun _ => ?_)
      refine WC.loop (σ := Nat) (fun k => k ≤ u)
        (fun k => [(0, .val (.pointer (some ⟨q, 0, none⟩))), (1, .val (.int .i64 0)), (2, .val (.int .i64 m)), (7, .val (.int .i64 k))])
        (fun k => [blk q [.slice a0 (Lf 0).length c0, .slice a1 (Lf 1).length c1, .slice a2 (Lf 2).length c2, .slice a3 (Lf 3).length c3] 43, ownS a0 (Lf 0).length c0 3 1 ((Lf 0).map iV), ownS a1 (Lf 1).length c1 3 1 ((Lf 1).map iV), ownS a2 (Lf 2).length c2 3 1 ((Lf 2).map iV), ownS a3 (Lf 3).length c3 3 1 ((Lf 3).map iV), F]) (fun k => u - k) 0 (Nat.zero_le _) ⟨rfl, rfl, rfl, rfl, trivial⟩ II ?_
      rintro k hk
      by_cases hlt : k < u
      · obtain ⟨hkl, hkm⟩ := hatl hlt
        refine WC.fact (fun h s => Ent.some (Ent.own (T := 3) (cap := c0) (cs := (Lf 0).map iV) MM) (show 0 < (Lf 0).length by omega) h s) ?_
        rintro ⟨b, off, rfl⟩
        have hel : ∀ {L}, ownS (some ⟨b, off, none⟩) (Lf 0).length c0 3 1 ((Lf 0).map iV) ∈ L → Ent L (cellAt b (off + k * 1) (iV (Lf 0)[k])) := fun m => Ent.elem (Ent.own m) rfl (int_get hkl)
        generalize (Lf 0)[k] = y at *
        repeat (first | refine GD ?_ | refine NW fun _ => ?_)
        refine WL.guardT rfl rfl rfl rfl (OP.load1 (v := .int .i64 y) rfl rfl rfl rfl (hel MM) rfl rfl ?_)
        repeat (first | refine GD ?_ | refine NW fun _ => ?_)
        exact ⟨k + 1, by omega, by omega, ⟨rfl, rfl, rfl, rfl, trivial⟩, II⟩
      obtain rfl : k = u := by omega
      refine WC.imp (Imp.nilS 3 1) ?_
      refine WC.fact (Ent.ownLe (n := (Lf 0).length) (cap := c0) (T := 3) (size := 1) (cs := (Lf 0).map iV) MM) (fun hcap => ?_)
      by_cases hkl : k < (Lf 0).length
      · have hmy := hata (List.getElem?_eq_getElem hkl)
        refine WC.fact (fun h s => Ent.some (Ent.own (T := 3) (cap := c0) (cs := (Lf 0).map iV) MM) (show 0 < (Lf 0).length by omega) h s) ?_
        rintro ⟨b, off, rfl⟩
        have hel : ∀ {L}, ownS (some ⟨b, off, none⟩) (Lf 0).length c0 3 1 ((Lf 0).map iV) ∈ L → Ent L (cellAt b (off + k * 1) (iV (Lf 0)[k])) := fun m => Ent.elem (Ent.own m) rfl (int_get hkl)
        generalize (Lf 0)[k] = y at *
        repeat (first | refine GD ?_ | refine NW fun _ => ?_)
        refine WL.guardT rfl rfl rfl rfl (OP.load1 (v := .int .i64 y) rfl rfl rfl rfl (hel MM) rfl rfl ?_)
        repeat (first | refine GD ?_ | refine NW fun _ => ?_)
        refine WL.step rfl (OP.append (ds := ((Lf 0).take k).map iV) rfl rfl rfl rfl rfl rfl rfl rfl rfl P1 (fun h s => (by
          have := readS_take (m := k) (Ent.own (a := (some ⟨b, off, none⟩)) (n := (Lf 0).length) (cap := c0) (T := 3) (size := 1) (cs := (Lf 0).map iV) MM h s) (by omega)
          rwa [Nat.mul_one, ← List.map_take] at this)) (allOne_intsR _) (by omega) (by omega) rfl rfl (fun a5 c5 => ?_))
        repeat (first | refine GD ?_ | refine NW fun _ => ?_)
        refine WL.step rfl (OP.append (ds := [iV m]) rfl rfl rfl rfl rfl rfl rfl rfl rfl P1 (Ent.own MM) rfl (by omega) (by omega) rfl rfl (fun a6 c6 => ?_))
        repeat (first | refine GD ?_ | refine NW fun _ => ?_)
        refine RD 15 16 ([blk q [.slice (some ⟨b, off, none⟩) (Lf 0).length c0, .slice a1 (Lf 1).length c1, .slice a2 (Lf 2).length c2, .slice a3 (Lf 3).length c3] 43]) ?_
        refine WP 0 ?_
        refine WP 1 ?_
        refine WP 2 ?_
        refine WP 3 ?_
        refine WP 4 ?_
        refine WP 5 ?_
        refine WP 6 ?_
        refine WP 7 ?_
        refine VV 8 ?_
        refine WP 9 ?_
        refine WP 10 ?_
        refine WP 12 ?_
        refine WP 13 ?_
        refine WH.only 11 rfl rfl (by kernel_rfl) rfl (OP.append (ds := ((Lf 0).drop k).map iV) rfl rfl rfl rfl rfl rfl rfl rfl rfl P1 (fun h s => (by have := readS_cut (i := k) (Ent.own (a := (some ⟨b, off, none⟩)) (n := (Lf 0).length) (cap := c0) (T := 3) (size := 1) (cs := (Lf 0).map iV) MM h s) (by omega) hcap; rwa [Nat.mul_one, ← List.map_drop] at this)) (allOne_intsR _) (by omega) (by omega) rfl rfl (fun a7 c7 => ⟨fun _ => II, ?_⟩))
        refine WP 14 ?_
        refine WH.only 15 rfl rfl (by kernel_rfl) rfl (OP.store rfl rfl rfl rfl rfl rfl rfl UP rfl ⟨(fun h => nomatch h), ?_⟩)
        refine DN ?_
        have hlen : 0 + k + 1 + ((Lf 0).length - k) = (insM (Lf 0) m).length := by omega
        rw [hlen]
        repeat (first | refine GD ?_ | refine NW fun _ => ?_)
        refine ret1 rfl ⟨[rtab q (putL Lf 0 m)], ⟨rfl, rfl⟩, ?_⟩
        rw [show [] ++ ((Lf 0).take k).map iV ++ [iV m] ++ ((Lf 0).drop k).map iV = (insM (Lf 0) m).map iV by rw [hie]; simp]
        exact Imp.trans II (rtabFold q (putL Lf 0 m) ((a7, c7), (a1, c1), (a2, c2), (a3, c3)) (putL_at Lf 0 m) (putL_ne (by decide)) (putL_ne (by decide)) (putL_ne (by decide)) rfl rfl rfl rfl)
      · repeat (first | refine GD ?_ | refine NW fun _ => ?_)
        refine WL.step rfl (OP.append (ds := ((Lf 0).take k).map iV) rfl rfl rfl rfl rfl rfl rfl rfl rfl P1 (fun h s => (by
          have := readS_take (m := k) (Ent.own (a := a0) (n := (Lf 0).length) (cap := c0) (T := 3) (size := 1) (cs := (Lf 0).map iV) MM h s) (by omega)
          rwa [Nat.mul_one, ← List.map_take] at this)) (allOne_intsR _) (by omega) (by omega) rfl rfl (fun a5 c5 => ?_))
        repeat (first | refine GD ?_ | refine NW fun _ => ?_)
        refine WL.step rfl (OP.append (ds := [iV m]) rfl rfl rfl rfl rfl rfl rfl rfl rfl P1 (Ent.own MM) rfl (by omega) (by omega) rfl rfl (fun a6 c6 => ?_))
        repeat (first | refine GD ?_ | refine NW fun _ => ?_)
        refine RD 15 16 ([blk q [.slice a0 (Lf 0).length c0, .slice a1 (Lf 1).length c1, .slice a2 (Lf 2).length c2, .slice a3 (Lf 3).length c3] 43]) ?_
        refine WP 0 ?_
        refine WP 1 ?_
        refine WP 2 ?_
        refine WP 3 ?_
        refine WP 4 ?_
        refine WP 5 ?_
        refine WP 6 ?_
        refine WP 7 ?_
        refine VV 8 ?_
        refine WP 9 ?_
        refine WP 10 ?_
        refine WP 12 ?_
        refine WP 13 ?_
        refine WH.only 11 rfl rfl (by kernel_rfl) rfl (OP.append (ds := ((Lf 0).drop k).map iV) rfl rfl rfl rfl rfl rfl rfl rfl rfl P1 (fun h s => (by have := readS_cut (i := k) (Ent.own (a := a0) (n := (Lf 0).length) (cap := c0) (T := 3) (size := 1) (cs := (Lf 0).map iV) MM h s) (by omega) hcap; rwa [Nat.mul_one, ← List.map_drop] at this)) (allOne_intsR _) (by omega) (by omega) rfl rfl (fun a7 c7 => ⟨fun _ => II, ?_⟩))
        refine WP 14 ?_
        refine WH.only 15 rfl rfl (by kernel_rfl) rfl (OP.store rfl rfl rfl rfl rfl rfl rfl UP rfl ⟨(fun h => nomatch h), ?_⟩)
        refine DN ?_
        have hlen : 0 + k + 1 + ((Lf 0).length - k) = (insM (Lf 0) m).length := by omega
        rw [hlen]
        repeat (first | refine GD ?_ | refine NW fun _ => ?_)
        refine ret1 rfl ⟨[rtab q (putL Lf 0 m)], ⟨rfl, rfl⟩, ?_⟩
        rw [show [] ++ ((Lf 0).take k).map iV ++ [iV m] ++ ((Lf 0).drop k).map iV = (insM (Lf 0) m).map iV by rw [hie]; simp]
        exact Imp.trans II (rtabFold q (putL Lf 0 m) ((a7, c7), (a1, c1), (a2, c2), (a3, c3)) (putL_at Lf 0 m) (putL_ne (by decide)) (putL_ne (by decide)) (putL_ne (by decide)) rfl rfl rfl rfl)
  · repeat (first | refine GD ?_ | refine NW fun _ => ?_)
    refine WL.step rfl (OP.callRO rfl rfl (rhas_ro a1 (Lf 1).length c1 (Lf 1) m rfl (by omega)) (Ent.own (T := 3) (cap := c1) MM) rfl rfl ?_)
    cases hc : (Lf 1).contains m with
    | true =>
      rw [hE, if_pos hc]
      repeat (first | refine GD ?_ | refine NW fun _ => ?_)
      refine ret1 rfl ⟨[rtab q Lf], ⟨rfl, rfl⟩, ?_⟩
      exact Imp.trans II (rtabFold q Lf ((a0, c0), (a1, c1), (a2, c2), (a3, c3)) rfl rfl rfl rfl rfl rfl rfl rfl)
    | false =>
      rw [hE, if_neg (by rw [hc]; decide)]
      have hal := atM_le (Lf 1) m
      have hatl := fun {k : Nat} => atM_lt (l := Lf 1) (m := m) (k := k)
      have hata := fun {y : Int} => atM_at (l := Lf 1) (m := m) (y := y)
      have hie := insM_eq (Lf 1) m
      have hil := insM_len (Lf 1) m
      generalize atM (Lf 1) m = u at *
      repeat (first | refine GD ?_ | refine NW fun _ => ?_)
      refine WC.loop (σ := Nat) (fun k => k ≤ u)
        (fun k => [(0, .val (.pointer (some ⟨q, 0, none⟩))), (1, .val (.int .i64 1)), (2, .val (.int .i64 m)), (7, .val (.int .i64 k))])
        (fun k => [blk q [.slice a0 (Lf 0).length c0, .slice a1 (Lf 1).length c1, .slice a2 (Lf 2).length c2, .slice a3 (Lf 3).length c3] 43, ownS a0 (Lf 0).length c0 3 1 ((Lf 0).map iV), ownS a1 (Lf 1).length c1 3 1 ((Lf 1).map iV), ownS a2 (Lf 2).length c2 3 1 ((Lf 2).map iV), ownS a3 (Lf 3).length c3 3 1 ((Lf 3).map iV), F]) (fun k => u - k) 0 (Nat.zero_le _) ⟨rfl, rfl, rfl, rfl, trivial⟩ II ?_
      rintro k hk
      by_cases hlt : k < u
      · obtain ⟨hkl, hkm⟩ := hatl hlt
        refine WC.fact (fun h s => Ent.some (Ent.own (T := 3) (cap := c1) (cs := (Lf 1).map iV) MM) (show 0 < (Lf 1).length by omega) h s) ?_
        rintro ⟨b, off, rfl⟩
        have hel : ∀ {L}, ownS (some ⟨b, off, none⟩) (Lf 1).length c1 3 1 ((Lf 1).map iV) ∈ L → Ent L (cellAt b (off + k * 1) (iV (Lf 1)[k])) := fun m => Ent.elem (Ent.own m) rfl (int_get hkl)
        generalize (Lf 1)[k] = y at *
        repeat (first | refine GD ?_ | refine NW fun _ => ?_)
        refine WL.guardT rfl rfl rfl rfl (OP.load1 (v := .int .i64 y) rfl rfl rfl rfl (hel MM) rfl rfl ?_)
        repeat (first | refine GD ?_ | refine NW fun _ => ?_)
        exact ⟨k + 1, by omega, by omega, ⟨rfl, rfl, rfl, rfl, trivial⟩, II⟩
      obtain rfl : k = u := by omega
      refine WC.imp (Imp.nilS 3 1) ?_
      refine WC.fact (Ent.ownLe (n := (Lf 1).length) (cap := c1) (T := 3) (size := 1) (cs := (Lf 1).map iV) MM) (fun hcap => ?_)
      by_cases hkl : k < (Lf 1).length
      · have hmy := hata (List.getElem?_eq_getElem hkl)
        refine WC.fact (fun h s => Ent.some (Ent.own (T := 3) (cap := c1) (cs := (Lf 1).map iV) MM) (show 0 < (Lf 1).length by omega) h s) ?_
        rintro ⟨b, off, rfl⟩
        have hel : ∀ {L}, ownS (some ⟨b, off, none⟩) (Lf 1).length c1 3 1 ((Lf 1).map iV) ∈ L → Ent L (cellAt b (off + k * 1) (iV (Lf 1)[k])) := fun m => Ent.elem (Ent.own m) rfl (int_get hkl)
        generalize (Lf 1)[k] = y at *
        repeat (first | refine GD ?_ | refine NW fun _ => ?_)
        refine WL.guardT rfl rfl rfl rfl (OP.load1 (v := .int .i64 y) rfl rfl rfl rfl (hel MM) rfl rfl ?_)
        repeat (first | refine GD ?_ | refine NW fun _ => ?_)
        refine WL.step rfl (OP.append (ds := ((Lf 1).take k).map iV) rfl rfl rfl rfl rfl rfl rfl rfl rfl P1 (fun h s => (by
          have := readS_take (m := k) (Ent.own (a := (some ⟨b, off, none⟩)) (n := (Lf 1).length) (cap := c1) (T := 3) (size := 1) (cs := (Lf 1).map iV) MM h s) (by omega)
          rwa [Nat.mul_one, ← List.map_take] at this)) (allOne_intsR _) (by omega) (by omega) rfl rfl (fun a5 c5 => ?_))
        repeat (first | refine GD ?_ | refine NW fun _ => ?_)
        refine WL.step rfl (OP.append (ds := [iV m]) rfl rfl rfl rfl rfl rfl rfl rfl rfl P1 (Ent.own MM) rfl (by omega) (by omega) rfl rfl (fun a6 c6 => ?_))
        repeat (first | refine GD ?_ | refine NW fun _ => ?_)
        refine RD 15 16 ([blk q [.slice a0 (Lf 0).length c0, .slice (some ⟨b, off, none⟩) (Lf 1).length c1, .slice a2 (Lf 2).length c2, .slice a3 (Lf 3).length c3] 43]) ?_
        refine WP 0 ?_
        refine WP 1 ?_
        refine WP 2 ?_
        refine WP 3 ?_
        refine WP 4 ?_
        refine WP 5 ?_
        refine WP 6 ?_
        refine WP 7 ?_
        refine VV 8 ?_
        refine WP 9 ?_
        refine WP 10 ?_
        refine WP 12 ?_
        refine WP 13 ?_
        refine WH.only 11 rfl rfl (by kernel_rfl) rfl (OP.append (ds := ((Lf 1).drop k).map iV) rfl rfl rfl rfl rfl rfl rfl rfl rfl P1 (fun h s => (by have := readS_cut (i := k) (Ent.own (a := (some ⟨b, off, none⟩)) (n := (Lf 1).length) (cap := c1) (T := 3) (size := 1) (cs := (Lf 1).map iV) MM h s) (by omega) hcap; rwa [Nat.mul_one, ← List.map_drop] at this)) (allOne_intsR _) (by omega) (by omega) rfl rfl (fun a7 c7 => ⟨fun _ => II, ?_⟩))
        refine WP 14 ?_
        refine WH.only 15 rfl rfl (by kernel_rfl) rfl (OP.store rfl rfl rfl rfl rfl rfl rfl UP rfl ⟨(fun h => nomatch h), ?_⟩)
        refine DN ?_
        have hlen : 0 + k + 1 + ((Lf 1).length - k) = (insM (Lf 1) m).length := by omega
        rw [hlen]
        repeat (first | refine GD ?_ | refine NW fun _ => ?_)
        refine ret1 rfl ⟨[rtab q (putL Lf 1 m)], ⟨rfl, rfl⟩, ?_⟩
        rw [show [] ++ ((Lf 1).take k).map iV ++ [iV m] ++ ((Lf 1).drop k).map iV = (insM (Lf 1) m).map iV by rw [hie]; simp]
        exact Imp.trans II (rtabFold q (putL Lf 1 m) ((a0, c0), (a7, c7), (a2, c2), (a3, c3)) (putL_ne (by decide)) (putL_at Lf 1 m) (putL_ne (by decide)) (putL_ne (by decide)) rfl rfl rfl rfl)
      · repeat (first | refine GD ?_ | refine NW fun _ => ?_)
        refine WL.step rfl (OP.append (ds := ((Lf 1).take k).map iV) rfl rfl rfl rfl rfl rfl rfl rfl rfl P1 (fun h s => (by
          have := readS_take (m := k) (Ent.own (a := a1) (n := (Lf 1).length) (cap := c1) (T := 3) (size := 1) (cs := (Lf 1).map iV) MM h s) (by omega)
          rwa [Nat.mul_one, ← List.map_take] at this)) (allOne_intsR _) (by omega) (by omega) rfl rfl (fun a5 c5 => ?_))
        repeat (first | refine GD ?_ | refine NW fun _ => ?_)
        refine WL.step rfl (OP.append (ds := [iV m]) rfl rfl rfl rfl rfl rfl rfl rfl rfl P1 (Ent.own MM) rfl (by omega) (by omega) rfl rfl (fun a6 c6 => ?_))
        repeat (first | refine GD ?_ | refine NW fun _ => ?_)
        refine RD 15 16 ([blk q [.slice a0 (Lf 0).length c0, .slice a1 (Lf 1).length c1, .slice a2 (Lf 2).length c2, .slice a3 (Lf 3).length c3] 43]) ?_
        refine WP 0 ?_
        refine WP 1 ?_
        refine WP 2 ?_
        refine WP 3 ?_
        refine WP 4 ?_
        refine WP 5 ?_
        refine WP 6 ?_
        refine WP 7 ?_
        refine VV 8 ?_
        refine WP 9 ?_
        refine WP 10 ?_
        refine WP 12 ?_
        refine WP 13 ?_
        refine WH.only 11 rfl rfl (by kernel_rfl) rfl (OP.append (ds := ((Lf 1).drop k).map iV) rfl rfl rfl rfl rfl rfl rfl rfl rfl P1 (fun h s => (by have := readS_cut (i := k) (Ent.own (a := a1) (n := (Lf 1).length) (cap := c1) (T := 3) (size := 1) (cs := (Lf 1).map iV) MM h s) (by omega) hcap; rwa [Nat.mul_one, ← List.map_drop] at this)) (allOne_intsR _) (by omega) (by omega) rfl rfl (fun a7 c7 => ⟨fun _ => II, ?_⟩))
        refine WP 14 ?_
        refine WH.only 15 rfl rfl (by kernel_rfl) rfl (OP.store rfl rfl rfl rfl rfl rfl rfl UP rfl ⟨(fun h => nomatch h), ?_⟩)
        refine DN ?_
        have hlen : 0 + k + 1 + ((Lf 1).length - k) = (insM (Lf 1) m).length := by omega
        rw [hlen]
        repeat (first | refine GD ?_ | refine NW fun _ => ?_)
        refine ret1 rfl ⟨[rtab q (putL Lf 1 m)], ⟨rfl, rfl⟩, ?_⟩
        rw [show [] ++ ((Lf 1).take k).map iV ++ [iV m] ++ ((Lf 1).drop k).map iV = (insM (Lf 1) m).map iV by rw [hie]; simp]
        exact Imp.trans II (rtabFold q (putL Lf 1 m) ((a0, c0), (a7, c7), (a2, c2), (a3, c3)) (putL_ne (by decide)) (putL_at Lf 1 m) (putL_ne (by decide)) (putL_ne (by decide)) rfl rfl rfl rfl)
  · repeat (first | refine GD ?_ | refine NW fun _ => ?_)
    refine WL.step rfl (OP.callRO rfl rfl (rhas_ro a2 (Lf 2).length c2 (Lf 2) m rfl (by omega)) (Ent.own (T := 3) (cap := c2) MM) rfl rfl ?_)
    cases hc : (Lf 2).contains m with
    | true =>
      rw [hE, if_pos hc]
      repeat (first | refine GD ?_ | refine NW fun _ => ?_)
      refine ret1 rfl ⟨[rtab q Lf], ⟨rfl, rfl⟩, ?_⟩
      exact Imp.trans II (rtabFold q Lf ((a0, c0), (a1, c1), (a2, c2), (a3, c3)) rfl rfl rfl rfl rfl rfl rfl rfl)
    | false =>
      rw [hE, if_neg (by rw [hc]; decide)]
      have hal := atM_le (Lf 2) m
      have hatl := fun {k : Nat} => atM_lt (l := Lf 2) (m := m) (k := k)
      have hata := fun {y : Int} => atM_at (l := Lf 2) (m := m) (y := y)
      have hie := insM_eq (Lf 2) m
      have hil := insM_len (Lf 2) m
      generalize atM (Lf 2) m = u at *
      repeat (first | refine GD ?_ | refine NW fun _ => ?_)
      refine WC.loop (σ := Nat) (fun k => k ≤ u)
        (fun k => [(0, .val (.pointer (some ⟨q, 0, none⟩))), (1, .val (.int .i64 2)), (2, .val (.int .i64 m)), (7, .val (.int .i64 k))])
        (fun k => [blk q [.slice a0 (Lf 0).length c0, .slice a1 (Lf 1).length c1, .slice a2 (Lf 2).length c2, .slice a3 (Lf 3).length c3] 43, ownS a0 (Lf 0).length c0 3 1 ((Lf 0).map iV), ownS a1 (Lf 1).length c1 3 1 ((Lf 1).map iV), ownS a2 (Lf 2).length c2 3 1 ((Lf 2).map iV), ownS a3 (Lf 3).length c3 3 1 ((Lf 3).map iV), F]) (fun k => u - k) 0 (Nat.zero_le _) ⟨rfl, rfl, rfl, rfl, trivial⟩ II ?_
      rintro k hk
      by_cases hlt : k < u
      · obtain ⟨hkl, hkm⟩ := hatl hlt
        refine WC.fact (fun h s => Ent.some (Ent.own (T := 3) (cap := c2) (cs := (Lf 2).map iV) MM) (show 0 < (Lf 2).length by omega) h s) ?_
        rintro ⟨b, off, rfl⟩
        have hel : ∀ {L}, ownS (some ⟨b, off, none⟩) (Lf 2).length c2 3 1 ((Lf 2).map iV) ∈ L → Ent L (cellAt b (off + k * 1) (iV (Lf 2)[k])) := fun m => Ent.elem (Ent.own m) rfl (int_get hkl)
        generalize (Lf 2)[k] = y at *
        repeat (first | refine GD ?_ | refine NW fun _ => ?_)
        refine WL.guardT rfl rfl rfl rfl (OP.load1 (v := .int .i64 y) rfl rfl rfl rfl (hel MM) rfl rfl ?_)
        repeat (first | refine GD ?_ | refine NW fun _ => ?_)
        exact ⟨k + 1, by omega, by omega, ⟨rfl, rfl, rfl, rfl, trivial⟩, II⟩
      obtain rfl : k = u := by omega
      refine WC.imp (Imp.nilS 3 1) ?_
      refine WC.fact (Ent.ownLe (n := (Lf 2).length) (cap := c2) (T := 3) (size := 1) (cs := (Lf 2).map iV) MM) (fun hcap => ?_)
      by_cases hkl : k < (Lf 2).length
      · have hmy := hata (List.getElem?_eq_getElem hkl)
        refine WC.fact (fun h s => Ent.some (Ent.own (T := 3) (cap := c2) (cs := (Lf 2).map iV) MM) (show 0 < (Lf 2).length by omega) h s) ?_
        rintro ⟨b, off, rfl⟩
        have hel : ∀ {L}, ownS (some ⟨b, off, none⟩) (Lf 2).length c2 3 1 ((Lf 2).map iV) ∈ L → Ent L (cellAt b (off + k * 1) (iV (Lf 2)[k])) := fun m => Ent.elem (Ent.own m) rfl (int_get hkl)
        generalize (Lf 2)[k] = y at *
        repeat (first | refine GD ?_ | refine NW fun _ => ?_)
        refine WL.guardT rfl rfl rfl rfl (OP.load1 (v := .int .i64 y) rfl rfl rfl rfl (hel MM) rfl rfl ?_)
        repeat (first | refine GD ?_ | refine NW fun _ => ?_)
        refine WL.step rfl (OP.append (ds := ((Lf 2).take k).map iV) rfl rfl rfl rfl rfl rfl rfl rfl rfl P1 (fun h s => (by
          have := readS_take (m := k) (Ent.own (a := (some ⟨b, off, none⟩)) (n := (Lf 2).length) (cap := c2) (T := 3) (size := 1) (cs := (Lf 2).map iV) MM h s) (by omega)
          rwa [Nat.mul_one, ← List.map_take] at this)) (allOne_intsR _) (by omega) (by omega) rfl rfl (fun a5 c5 => ?_))
        repeat (first | refine GD ?_ | refine NW fun _ => ?_)
        refine WL.step rfl (OP.append (ds := [iV m]) rfl rfl rfl rfl rfl rfl rfl rfl rfl P1 (Ent.own MM) rfl (by omega) (by omega) rfl rfl (fun a6 c6 => ?_))
        repeat (first | refine GD ?_ | refine NW fun _ => ?_)
        refine RD 15 16 ([blk q [.slice a0 (Lf 0).length c0, .slice a1 (Lf 1).length c1, .slice (some ⟨b, off, none⟩) (Lf 2).length c2, .slice a3 (Lf 3).length c3] 43]) ?_
        refine WP 0 ?_
        refine WP 1 ?_
        refine WP 2 ?_
        refine WP 3 ?_
        refine WP 4 ?_
        refine WP 5 ?_
        refine WP 6 ?_
        refine WP 7 ?_
        refine VV 8 ?_
        refine WP 9 ?_
        refine WP 10 ?_
        refine WP 12 ?_
        refine WP 13 ?_
        refine WH.only 11 rfl rfl (by kernel_rfl) rfl (OP.append (ds := ((Lf 2).drop k).map iV) rfl rfl rfl rfl rfl rfl rfl rfl rfl P1 (fun h s => (by have := readS_cut (i := k) (Ent.own (a := (some ⟨b, off, none⟩)) (n := (Lf 2).length) (cap := c2) (T := 3) (size := 1) (cs := (Lf 2).map iV) MM h s) (by omega) hcap; rwa [Nat.mul_one, ← List.map_drop] at this)) (allOne_intsR _) (by omega) (by omega) rfl rfl (fun a7 c7 => ⟨fun _ => II, ?_⟩))
        refine WP 14 ?_
        refine WH.only 15 rfl rfl (by kernel_rfl) rfl (OP.store rfl rfl rfl rfl rfl rfl rfl UP rfl ⟨(fun h => nomatch h), ?_⟩)
        refine DN ?_
        have hlen : 0 + k + 1 + ((Lf 2).length - k) = (insM (Lf 2) m).length := by omega
        rw [hlen]
        repeat (first | refine GD ?_ | refine NW fun _ => ?_)
        refine ret1 rfl ⟨[rtab q (putL Lf 2 m)], ⟨rfl, rfl⟩, ?_⟩
        rw [show [] ++ ((Lf 2).take k).map iV ++ [iV m] ++ ((Lf 2).drop k).map iV = (insM (Lf 2) m).map iV by rw [hie]; simp]
        exact Imp.trans II (rtabFold q (putL Lf 2 m) ((a0, c0), (a1, c1), (a7, c7), (a3, c3)) (putL_ne (by decide)) (putL_ne (by decide)) (putL_at Lf 2 m) (putL_ne (by decide)) rfl rfl rfl rfl)
      · repeat (first | refine GD ?_ | refine NW fun _ => ?_)
        refine WL.step rfl (OP.append (ds := ((Lf 2).take k).map iV) rfl rfl rfl rfl rfl rfl rfl rfl rfl P1 (fun h s => (by
          have := readS_take (m := k) (Ent.own (a := a2) (n := (Lf 2).length) (cap := c2) (T := 3) (size := 1) (cs := (Lf 2).map iV) MM h s) (by omega)
          rwa [Nat.mul_one, ← List.map_take] at this)) (allOne_intsR _) (by omega) (by omega) rfl rfl (fun a5 c5 => ?_))
        repeat (first | refine GD ?_ | refine NW fun _ => ?_)
        refine WL.step rfl (OP.append (ds := [iV m]) rfl rfl rfl rfl rfl rfl rfl rfl rfl P1 (Ent.own MM) rfl (by omega) (by omega) rfl rfl (fun a6 c6 => ?_))
        repeat (first | refine GD ?_ | refine NW fun _ => ?_)
        refine RD 15 16 ([blk q [.slice a0 (Lf 0).length c0, .slice a1 (Lf 1).length c1, .slice a2 (Lf 2).length c2, .slice a3 (Lf 3).length c3] 43]) ?_
        refine WP 0 ?_
        refine WP 1 ?_
        refine WP 2 ?_
        refine WP 3 ?_
        refine WP 4 ?_
        refine WP 5 ?_
        refine WP 6 ?_
        refine WP 7 ?_
        refine VV 8 ?_
        refine WP 9 ?_
        refine WP 10 ?_
        refine WP 12 ?_
        refine WP 13 ?_
        refine WH.only 11 rfl rfl (by kernel_rfl) rfl (OP.append (ds := ((Lf 2).drop k).map iV) rfl rfl rfl rfl rfl rfl rfl rfl rfl P1 (fun h s => (by have := readS_cut (i := k) (Ent.own (a := a2) (n := (Lf 2).length) (cap := c2) (T := 3) (size := 1) (cs := (Lf 2).map iV) MM h s) (by omega) hcap; rwa [Nat.mul_one, ← List.map_drop] at this)) (allOne_intsR _) (by omega) (by omega) rfl rfl (fun a7 c7 => ⟨fun _ => II, ?_⟩))
        refine WP 14 ?_
        refine WH.only 15 rfl rfl (by kernel_rfl) rfl (OP.store rfl rfl rfl rfl rfl rfl rfl UP rfl ⟨(fun h => nomatch h), ?_⟩)
        refine DN ?_
        have hlen : 0 + k + 1 + ((Lf 2).length - k) = (insM (Lf 2) m).length := by omega
        rw [hlen]
        repeat (first | refine GD ?_ | refine NW fun _ => ?_)
        refine ret1 rfl ⟨[rtab q (putL Lf 2 m)], ⟨rfl, rfl⟩, ?_⟩
        rw [show [] ++ ((Lf 2).take k).map iV ++ [iV m] ++ ((Lf 2).drop k).map iV = (insM (Lf 2) m).map iV by rw [hie]; simp]
        exact Imp.trans II (rtabFold q (putL Lf 2 m) ((a0, c0), (a1, c1), (a7, c7), (a3, c3)) (putL_ne (by decide)) (putL_ne (by decide)) (putL_at Lf 2 m) (putL_ne (by decide)) rfl rfl rfl rfl)
  · repeat (first | refine GD ?_ | refine NW fun _ => ?_)
    refine WL.step rfl (OP.callRO rfl rfl (rhas_ro a3 (Lf 3).length c3 (Lf 3) m rfl (by omega)) (Ent.own (T := 3) (cap := c3) MM) rfl rfl ?_)
    cases hc : (Lf 3).contains m with
    | true =>
      rw [hE, if_pos hc]
      repeat (first | refine GD ?_ | refine NW fun _ => ?_)
      refine ret1 rfl ⟨[rtab q Lf], ⟨rfl, rfl⟩, ?_⟩
      exact Imp.trans II (rtabFold q Lf ((a0, c0), (a1, c1), (a2, c2), (a3, c3)) rfl rfl rfl rfl rfl rfl rfl rfl)
    | false =>
      rw [hE, if_neg (by rw [hc]; decide)]
      have hal := atM_le (Lf 3) m
      have hatl := fun {k : Nat} => atM_lt (l := Lf 3) (m := m) (k := k)
      have hata := fun {y : Int} => atM_at (l := Lf 3) (m := m) (y := y)
      have hie := insM_eq (Lf 3) m
      have hil := insM_len (Lf 3) m
      generalize atM (Lf 3) m = u at *
      repeat (first | refine GD ?_ | refine NW fun _ => ?_)
      refine WC.loop (σ := Nat) (fun k => k ≤ u)
        (fun k => [(0, .val (.pointer (some ⟨q, 0, none⟩))), (1, .val (.int .i64 3)), (2, .val (.int .i64 m)), (7, .val (.int .i64 k))])
        (fun k => [blk q [.slice a0 (Lf 0).length c0, .slice a1 (Lf 1).length c1, .slice a2 (Lf 2).length c2, .slice a3 (Lf 3).length c3] 43, ownS a0 (Lf 0).length c0 3 1 ((Lf 0).map iV), ownS a1 (Lf 1).length c1 3 1 ((Lf 1).map iV), ownS a2 (Lf 2).length c2 3 1 ((Lf 2).map iV), ownS a3 (Lf 3).length c3 3 1 ((Lf 3).map iV), F]) (fun k => u - k) 0 (Nat.zero_le _) ⟨rfl, rfl, rfl, rfl, trivial⟩ II ?_
      rintro k hk
      by_cases hlt : k < u
      · obtain ⟨hkl, hkm⟩ := hatl hlt
        refine WC.fact (fun h s => Ent.some (Ent.own (T := 3) (cap := c3) (cs := (Lf 3).map iV) MM) (show 0 < (Lf 3).length by omega) h s) ?_
        rintro ⟨b, off, rfl⟩
        have hel : ∀ {L}, ownS (some ⟨b, off, none⟩) (Lf 3).length c3 3 1 ((Lf 3).map iV) ∈ L → Ent L (cellAt b (off + k * 1) (iV (Lf 3)[k])) := fun m => Ent.elem (Ent.own m) rfl (int_get hkl)
        generalize (Lf 3)[k] = y at *
        repeat (first | refine GD ?_ | refine NW fun _ => ?_)
        refine WL.guardT rfl rfl rfl rfl (OP.load1 (v := .int .i64 y) rfl rfl rfl rfl (hel MM) rfl rfl ?_)
        repeat (first | refine GD ?_ | refine NW fun _ => ?_)
        exact ⟨k + 1, by omega, by omega, ⟨rfl, rfl, rfl, rfl, trivial⟩, II⟩
      obtain rfl : k = u := by omega
      refine WC.imp (Imp.nilS 3 1) ?_
      refine WC.fact (Ent.ownLe (n := (Lf 3).length) (cap := c3) (T := 3) (size := 1) (cs := (Lf 3).map iV) MM) (fun hcap => ?_)
      by_cases hkl : k < (Lf 3).length
      · have hmy := hata (List.getElem?_eq_getElem hkl)
        refine WC.fact (fun h s => Ent.some (Ent.own (T := 3) (cap := c3) (cs := (Lf 3).map iV) MM) (show 0 < (Lf 3).length by omega) h s) ?_
        rintro ⟨b, off, rfl⟩
        have hel : ∀ {L}, ownS (some ⟨b, off, none⟩) (Lf 3).length c3 3 1 ((Lf 3).map iV) ∈ L → Ent L (cellAt b (off + k * 1) (iV (Lf 3)[k])) := fun m => Ent.elem (Ent.own m) rfl (int_get hkl)
        generalize (Lf 3)[k] = y at *
        repeat (first | refine GD ?_ | refine NW fun _ => ?_)
        refine WL.guardT rfl rfl rfl rfl (OP.load1 (v := .int .i64 y) rfl rfl rfl rfl (hel MM) rfl rfl ?_)
        repeat (first | refine GD ?_ | refine NW fun _ => ?_)
        refine WL.step rfl (OP.append (ds := ((Lf 3).take k).map iV) rfl rfl rfl rfl rfl rfl rfl rfl rfl P1 (fun h s => (by
          have := readS_take (m := k) (Ent.own (a := (some ⟨b, off, none⟩)) (n := (Lf 3).length) (cap := c3) (T := 3) (size := 1) (cs := (Lf 3).map iV) MM h s) (by omega)
          rwa [Nat.mul_one, ← List.map_take] at this)) (allOne_intsR _) (by omega) (by omega) rfl rfl (fun a5 c5 => ?_))
        repeat (first | refine GD ?_ | refine NW fun _ => ?_)
        refine WL.step rfl (OP.append (ds := [iV m]) rfl rfl rfl rfl rfl rfl rfl rfl rfl P1 (Ent.own MM) rfl (by omega) (by omega) rfl rfl (fun a6 c6 => ?_))
        repeat (first | refine GD ?_ | refine NW fun _ => ?_)
        refine RD 15 16 ([blk q [.slice a0 (Lf 0).length c0, .slice a1 (Lf 1).length c1, .slice a2 (Lf 2).length c2, .slice (some ⟨b, off, none⟩) (Lf 3).length c3] 43]) ?_
        refine WP 0 ?_
        refine WP 1 ?_
        refine WP 2 ?_
        refine WP 3 ?_
        refine WP 4 ?_
        refine WP 5 ?_
        refine WP 6 ?_
        refine WP 7 ?_
        refine VV 8 ?_
        refine WP 9 ?_
        refine WP 10 ?_
        refine WP 12 ?_
        refine WP 13 ?_
        refine WH.only 11 rfl rfl (by kernel_rfl) rfl (OP.append (ds := ((Lf 3).drop k).map iV) rfl rfl rfl rfl rfl rfl rfl rfl rfl P1 (fun h s => (by have := readS_cut (i := k) (Ent.own (a := (some ⟨b, off, none⟩)) (n := (Lf 3).length) (cap := c3) (T := 3) (size := 1) (cs := (Lf 3).map iV) MM h s) (by omega) hcap; rwa [Nat.mul_one, ← List.map_drop] at this)) (allOne_intsR _) (by omega) (by omega) rfl rfl (fun a7 c7 => ⟨fun _ => II, ?_⟩))
        refine WP 14 ?_
        refine WH.only 15 rfl rfl (by kernel_rfl) rfl (OP.store rfl rfl rfl rfl rfl rfl rfl UP rfl ⟨(fun h => nomatch h), ?_⟩)
        refine DN ?_
        have hlen : 0 + k + 1 + ((Lf 3).length - k) = (insM (Lf 3) m).length := by omega
        rw [hlen]
        repeat (first | refine GD ?_ | refine NW fun _ => ?_)
        refine ret1 rfl ⟨[rtab q (putL Lf 3 m)], ⟨rfl, rfl⟩, ?_⟩
        rw [show [] ++ ((Lf 3).take k).map iV ++ [iV m] ++ ((Lf 3).drop k).map iV = (insM (Lf 3) m).map iV by rw [hie]; simp]
        exact Imp.trans II (rtabFold q (putL Lf 3 m) ((a0, c0), (a1, c1), (a2, c2), (a7, c7)) (putL_ne (by decide)) (putL_ne (by decide)) (putL_ne (by decide)) (putL_at Lf 3 m) rfl rfl rfl rfl)
      · repeat (first | refine GD ?_ | refine NW fun _ => ?_)
        refine WL.step rfl (OP.append (ds := ((Lf 3).take k).map iV) rfl rfl rfl rfl rfl rfl rfl rfl rfl P1 (fun h s => (by
          have := readS_take (m := k) (Ent.own (a := a3) (n := (Lf 3).length) (cap := c3) (T := 3) (size := 1) (cs := (Lf 3).map iV) MM h s) (by omega)
          rwa [Nat.mul_one, ← List.map_take] at this)) (allOne_intsR _) (by omega) (by omega) rfl rfl (fun a5 c5 => ?_))
        repeat (first | refine GD ?_ | refine NW fun _ => ?_)
        refine WL.step rfl (OP.append (ds := [iV m]) rfl rfl rfl rfl rfl rfl rfl rfl rfl P1 (Ent.own MM) rfl (by omega) (by omega) rfl rfl (fun a6 c6 => ?_))
        repeat (first | refine GD ?_ | refine NW fun _ => ?_)
        refine RD 15 16 ([blk q [.slice a0 (Lf 0).length c0, .slice a1 (Lf 1).length c1, .slice a2 (Lf 2).length c2, .slice a3 (Lf 3).length c3] 43]) ?_
        refine WP 0 ?_
        refine WP 1 ?_
        refine WP 2 ?_
        refine WP 3 ?_
        refine WP 4 ?_
        refine WP 5 ?_
        refine WP 6 ?_
        refine WP 7 ?_
        refine VV 8 ?_
        refine WP 9 ?_
        refine WP 10 ?_
        refine WP 12 ?_
        refine WP 13 ?_
        refine WH.only 11 rfl rfl (by kernel_rfl) rfl (OP.append (ds := ((Lf 3).drop k).map iV) rfl rfl rfl rfl rfl rfl rfl rfl rfl P1 (fun h s => (by have := readS_cut (i := k) (Ent.own (a := a3) (n := (Lf 3).length) (cap := c3) (T := 3) (size := 1) (cs := (Lf 3).map iV) MM h s) (by omega) hcap; rwa [Nat.mul_one, ← List.map_drop] at this)) (allOne_intsR _) (by omega) (by omega) rfl rfl (fun a7 c7 => ⟨fun _ => II, ?_⟩))
        refine WP 14 ?_
        refine WH.only 15 rfl rfl (by kernel_rfl) rfl (OP.store rfl rfl rfl rfl rfl rfl rfl UP rfl ⟨(fun h => nomatch h), ?_⟩)
        refine DN ?_
        have hlen : 0 + k + 1 + ((Lf 3).length - k) = (insM (Lf 3) m).length := by omega
        rw [hlen]
        repeat (first | refine GD ?_ | refine NW fun _ => ?_)
        refine ret1 rfl ⟨[rtab q (putL Lf 3 m)], ⟨rfl, rfl⟩, ?_⟩
        rw [show [] ++ ((Lf 3).take k).map iV ++ [iV m] ++ ((Lf 3).drop k).map iV = (insM (Lf 3) m).map iV by rw [hie]; simp]
        exact Imp.trans II (rtabFold q (putL Lf 3 m) ((a0, c0), (a1, c1), (a2, c2), (a7, c7)) (putL_ne (by decide)) (putL_ne (by decide)) (putL_ne (by decide)) (putL_at Lf 3 m) rfl rfl rfl rfl)
end Go.Proofs.YtacgheafbkfciaaDoor
/- Contracts of functions of the given program, and plain laws on what they compute: parts of the proofs of laws. -/

namespace Go.Proofs.YtacgheafbkfciaaDoor
open Go Go.GL

def aftM (u : Int) (o : List Int) : List Int := o.filter (fun m => decide (u < m))
theorem aftM_snoc (u : Int) (o : List Int) (x : Int) : aftM u (o ++ [x]) = if u < x then aftM u o ++ [x] else aftM u o := by
  unfold aftM
  rw [List.filter_append]
  by_cases h : u < x <;> simp [h]
def forgetL (Lf : Int → List Int) (v u : Int) : Int → List Int := fun a => if a = v then aftM u (Lf v) else Lf a
theorem forgetL_at (Lf : Int → List Int) (v u : Int) : forgetL Lf v u v = aftM u (Lf v) := if_pos rfl
theorem forgetL_ne {Lf : Int → List Int} {v u a : Int} (h : a ≠ v) : forgetL Lf v u a = Lf a := if_neg h
def rforgetL (Lf : Int → List Int) (v u : Int) : Int → List Int := if 0 ≤ v ∧ v < 4 then forgetL Lf v u else Lf
set_option maxHeartbeats 16000000 in
set_option maxRecDepth 10000 in
theorem rforget_ok (q : Nat) (Lf : Int → List Int) (v u : Int) (hs : ∀ v, (Lf v).length < 100000) :
    Triple G 15 [.pointer (some ⟨q, 0, none⟩), .int .i64 v, .int .i64 u] [rtab q Lf] (fun x M => x = .tuple #[] ∧ M = [rtab q (rforgetL Lf v u)]) := by
  refine Triple.enter Tryd.func15 rfl (by decide) rfl Tryd.ntmps15 rfl (fun F => ?_)
  have h0 := hs 0
  have h1 := hs 1
  have h2 := hs 2
  have h3 := hs 3
  repeat (first | refine GD ?_ | refine NW fun _ => ?_)
  refine WL.step rfl (OP.callRO rfl rfl (rin_ro v) (fun _ _ => trivial) rfl rfl ?_)
  by_cases hv : 0 ≤ v ∧ v < 4
  rotate_left
  · rw [decide_eq_false hv, show rforgetL Lf v u = Lf from if_neg hv]
    repeat (first | refine GD ?_ | refine NW fun _ => ?_)
    exact ret0 ⟨_, ⟨rfl, rfl⟩, II⟩
  rw [decide_eq_true hv, show rforgetL Lf v u = forgetL Lf v u from if_pos hv]
  refine WL.open (M := [F]) (Ls := rtabL q Lf) (show Imp _ (rtab q Lf :: [F]) from II) (fun x => ?_)
  unfold rtabL
  dsimp only [List.cons_append, List.nil_append]
  obtain ⟨⟨a0, c0⟩, ⟨a1, c1⟩, ⟨a2, c2⟩, ⟨a3, c3⟩⟩ := x
  dsimp only
  have hv : v = 0 ∨ v = 1 ∨ v = 2 ∨ v = 3 := by omega
  rcases hv with rfl | rfl | rfl | rfl
  · repeat (first | refine GD ?_ | refine NW fun _ => ?_)
    refine WC.imp (Imp.nilS 3 1) ?_
    refine WC.loop (σ := Nat × Option Addr × Nat) (fun s => s.1 ≤ (Lf 0).length)
      (fun s => [(0, .val (.pointer (some ⟨q, 0, none⟩))), (1, .val (.int .i64 0)), (2, .val (.int .i64 u)), (6, .val (.slice s.2.1 (aftM u ((Lf 0).take s.1)).length s.2.2)), (17, .val (.int .i64 (Lf 0).length)), (18, .val (.int .i64 s.1))])
      (fun s => [ownS s.2.1 (aftM u ((Lf 0).take s.1)).length s.2.2 3 1 ((aftM u ((Lf 0).take s.1)).map iV), blk q [.slice a0 (Lf 0).length c0, .slice a1 (Lf 1).length c1, .slice a2 (Lf 2).length c2, .slice a3 (Lf 3).length c3] 43, ownS a0 (Lf 0).length c0 3 1 ((Lf 0).map iV), ownS a1 (Lf 1).length c1 3 1 ((Lf 1).map iV), ownS a2 (Lf 2).length c2 3 1 ((Lf 2).map iV), ownS a3 (Lf 3).length c3 3 1 ((Lf 3).map iV), F]) (fun s => (Lf 0).length - s.1) (0, none, 0) (Nat.zero_le _) ⟨rfl, rfl, rfl, rfl, rfl, rfl, trivial⟩ II ?_
    rintro ⟨k, a9, c9⟩ hk
    dsimp only at hk ⊢
    by_cases hkl : k < (Lf 0).length
    · have hsn : aftM u ((Lf 0).take (k + 1)) = if u < (Lf 0)[k] then aftM u ((Lf 0).take k) ++ [(Lf 0)[k]] else aftM u ((Lf 0).take k) := by rw [← List.take_append_getElem hkl, aftM_snoc]
      have hle : (aftM u ((Lf 0).take k)).length ≤ (Lf 0).length := Nat.le_trans (List.length_filter_le _ _) (by rw [List.length_take]; omega)
      refine WC.fact (fun h s => Ent.some (Ent.own (T := 3) (cap := c0) (cs := (Lf 0).map iV) MM) (show 0 < (Lf 0).length by omega) h s) ?_
      rintro ⟨b, off, rfl⟩
      have hel : ∀ {L}, ownS (some ⟨b, off, none⟩) (Lf 0).length c0 3 1 ((Lf 0).map iV) ∈ L → Ent L (cellAt b (off + k * 1) (iV (Lf 0)[k])) := fun m => Ent.elem (Ent.own m) rfl (int_get hkl)
      generalize (Lf 0)[k] = y at *
      generalize aftM u ((Lf 0).take k) = W at *
      repeat (first | refine GD ?_ | refine NW fun _ => ?_)
      refine WL.step rfl (OP.load1 (v := .int .i64 y) rfl rfl rfl rfl (hel MM) rfl rfl ?_)
      by_cases hy : u < y
      · rw [if_pos hy] at hsn
        have hl1 : (W ++ [y]).length = W.length + 1 := by simp
        repeat (first | refine GD ?_ | refine NW fun _ => ?_)
        refine WL.step rfl (OP.load1 (v := .int .i64 y) rfl rfl rfl rfl (hel MM) rfl rfl ?_)
        repeat (first | refine GD ?_ | refine NW fun _ => ?_)
        refine WL.step rfl (OP.append (ds := [iV y]) rfl rfl rfl rfl rfl rfl rfl rfl rfl P1 (Ent.own MM) rfl (by omega) (by omega) rfl rfl (fun a' cap' => ?_))
        repeat (first | refine GD ?_ | refine NW fun _ => ?_)
        exact ⟨(k + 1, a', cap'), by dsimp only; omega, by dsimp only; omega, ⟨rfl, rfl, rfl, by dsimp only; rw [hsn, hl1]; rfl, rfl, rfl, trivial⟩, by dsimp only; rw [hsn, hl1, List.map_append]; exact II⟩
      · rw [if_neg hy] at hsn
        repeat (first | refine GD ?_ | refine NW fun _ => ?_)
        exact ⟨(k + 1, a9, c9), by dsimp only; omega, by dsimp only; omega, ⟨rfl, rfl, rfl, by dsimp only; rw [hsn]; rfl, rfl, rfl, trivial⟩, by dsimp only; rw [hsn]; exact II⟩
    obtain rfl : k = (Lf 0).length := by omega
    rw [List.take_length]
    repeat (first | refine GD ?_ | refine NW fun _ => ?_)
    refine ret0n ⟨[rtab q (forgetL Lf 0 u)], ⟨rfl, rfl⟩, ?_⟩
    exact Imp.trans II (rtabFold q (forgetL Lf 0 u) ((a9, c9), (a1, c1), (a2, c2), (a3, c3)) (forgetL_at Lf 0 u) (forgetL_ne (by decide)) (forgetL_ne (by decide)) (forgetL_ne (by decide)) rfl rfl rfl rfl)
  · repeat (first | refine GD ?_ | refine NW fun _ => ?_)
    refine WC.imp (Imp.nilS 3 1) ?_
    refine WC.loop (σ := Nat × Option Addr × Nat) (fun s => s.1 ≤ (Lf 1).length)
      (fun s => [(0, .val (.pointer (some ⟨q, 0, none⟩))), (1, .val (.int .i64 1)), (2, .val (.int .i64 u)), (6, .val (.slice s.2.1 (aftM u ((Lf 1).take s.1)).length s.2.2)), (17, .val (.int .i64 (Lf 1).length)), (18, .val (.int .i64 s.1))])
      (fun s => [ownS s.2.1 (aftM u ((Lf 1).take s.1)).length s.2.2 3 1 ((aftM u ((Lf 1).take s.1)).map iV), blk q [.slice a0 (Lf 0).length c0, .slice a1 (Lf 1).length c1, .slice a2 (Lf 2).length c2, .slice a3 (Lf 3).length c3] 43, ownS a0 (Lf 0).length c0 3 1 ((Lf 0).map iV), ownS a1 (Lf 1).length c1 3 1 ((Lf 1).map iV), ownS a2 (Lf 2).length c2 3 1 ((Lf 2).map iV), ownS a3 (Lf 3).length c3 3 1 ((Lf 3).map iV), F]) (fun s => (Lf 1).length - s.1) (0, none, 0) (Nat.zero_le _) ⟨rfl, rfl, rfl, rfl, rfl, rfl, trivial⟩ II ?_
    rintro ⟨k, a9, c9⟩ hk
    dsimp only at hk ⊢
    by_cases hkl : k < (Lf 1).length
    · have hsn : aftM u ((Lf 1).take (k + 1)) = if u < (Lf 1)[k] then aftM u ((Lf 1).take k) ++ [(Lf 1)[k]] else aftM u ((Lf 1).take k) := by rw [← List.take_append_getElem hkl, aftM_snoc]
      have hle : (aftM u ((Lf 1).take k)).length ≤ (Lf 1).length := Nat.le_trans (List.length_filter_le _ _) (by rw [List.length_take]; omega)
      refine WC.fact (fun h s => Ent.some (Ent.own (T := 3) (cap := c1) (cs := (Lf 1).map iV) MM) (show 0 < (Lf 1).length by omega) h s) ?_
      rintro ⟨b, off, rfl⟩
      have hel : ∀ {L}, ownS (some ⟨b, off, none⟩) (Lf 1).length c1 3 1 ((Lf 1).map iV) ∈ L → Ent L (cellAt b (off + k * 1) (iV (Lf 1)[k])) := fun m => Ent.elem (Ent.own m) rfl (int_get hkl)
      generalize (Lf 1)[k] = y at *
      generalize aftM u ((Lf 1).take k) = W at *
      repeat (first | refine GD ?_ | refine NW fun _ => ?_)
      refine WL.step rfl (OP.load1 (v := .int .i64 y) rfl rfl rfl rfl (hel MM) rfl rfl ?_)
      by_cases hy : u < y
      · rw [if_pos hy] at hsn
        have hl1 : (W ++ [y]).length = W.length + 1 := by simp
        repeat (first | refine GD ?_ | refine NW fun _ => ?_)
        refine WL.step rfl (OP.load1 (v := .int .i64 y) rfl rfl rfl rfl (hel MM) rfl rfl ?_)
        repeat (first | refine GD ?_ | refine NW fun _ => ?_)
        refine WL.step rfl (OP.append (ds := [iV y]) rfl rfl rfl rfl rfl rfl rfl rfl rfl P1 (Ent.own MM) rfl (by omega) (by omega) rfl rfl (fun a' cap' => ?_))
        repeat (first | refine GD ?_ | refine NW fun _ => ?_)
        exact ⟨(k + 1, a', cap'), by dsimp only; omega, by dsimp only; omega, ⟨rfl, rfl, rfl, by dsimp only; rw [hsn, hl1]; rfl, rfl, rfl, trivial⟩, by dsimp only; rw [hsn, hl1, List.map_append]; exact II⟩
      · rw [if_neg hy] at hsn
        repeat (first | refine GD ?_ | refine NW fun _ => ?_)
        exact ⟨(k + 1, a9, c9), by dsimp only; omega, by dsimp only; omega, ⟨rfl, rfl, rfl, by dsimp only; rw [hsn]; rfl, rfl, rfl, trivial⟩, by dsimp only; rw [hsn]; exact II⟩
    obtain rfl : k = (Lf 1).length := by omega
    rw [List.take_length]
    repeat (first | refine GD ?_ | refine NW fun _ => ?_)
    refine ret0n ⟨[rtab q (forgetL Lf 1 u)], ⟨rfl, rfl⟩, ?_⟩
    exact Imp.trans II (rtabFold q (forgetL Lf 1 u) ((a0, c0), (a9, c9), (a2, c2), (a3, c3)) (forgetL_ne (by decide)) (forgetL_at Lf 1 u) (forgetL_ne (by decide)) (forgetL_ne (by decide)) rfl rfl rfl rfl)
  · repeat (first | refine GD ?_ | refine NW fun _ => ?_)
    refine WC.imp (Imp.nilS 3 1) ?_
    refine WC.loop (σ := Nat × Option Addr × Nat) (fun s => s.1 ≤ (Lf 2).length)
      (fun s => [(0, .val (.pointer (some ⟨q, 0, none⟩))), (1, .val (.int .i64 2)), (2, .val (.int .i64 u)), (6, .val (.slice s.2.1 (aftM u ((Lf 2).take s.1)).length s.2.2)), (17, .val (.int .i64 (Lf 2).length)), (18, .val (.int .i64 s.1))])
      (fun s => [ownS s.2.1 (aftM u ((Lf 2).take s.1)).length s.2.2 3 1 ((aftM u ((Lf 2).take s.1)).map iV), blk q [.slice a0 (Lf 0).length c0, .slice a1 (Lf 1).length c1, .slice a2 (Lf 2).length c2, .slice a3 (Lf 3).length c3] 43, ownS a0 (Lf 0).length c0 3 1 ((Lf 0).map iV), ownS a1 (Lf 1).length c1 3 1 ((Lf 1).map iV), ownS a2 (Lf 2).length c2 3 1 ((Lf 2).map iV), ownS a3 (Lf 3).length c3 3 1 ((Lf 3).map iV), F]) (fun s => (Lf 2).length - s.1) (0, none, 0) (Nat.zero_le _) ⟨rfl, rfl, rfl, rfl, rfl, rfl, trivial⟩ II ?_
    rintro ⟨k, a9, c9⟩ hk
    dsimp only at hk ⊢
    by_cases hkl : k < (Lf 2).length
    · have hsn : aftM u ((Lf 2).take (k + 1)) = if u < (Lf 2)[k] then aftM u ((Lf 2).take k) ++ [(Lf 2)[k]] else aftM u ((Lf 2).take k) := by rw [← List.take_append_getElem hkl, aftM_snoc]
      have hle : (aftM u ((Lf 2).take k)).length ≤ (Lf 2).length := Nat.le_trans (List.length_filter_le _ _) (by rw [List.length_take]; omega)
      refine WC.fact (fun h s => Ent.some (Ent.own (T := 3) (cap := c2) (cs := (Lf 2).map iV) MM) (show 0 < (Lf 2).length by omega) h s) ?_
      rintro ⟨b, off, rfl⟩
      have hel : ∀ {L}, ownS (some ⟨b, off, none⟩) (Lf 2).length c2 3 1 ((Lf 2).map iV) ∈ L → Ent L (cellAt b (off + k * 1) (iV (Lf 2)[k])) := fun m => Ent.elem (Ent.own m) rfl (int_get hkl)
      generalize (Lf 2)[k] = y at *
      generalize aftM u ((Lf 2).take k) = W at *
      repeat (first | refine GD ?_ | refine NW fun _ => ?_)
      refine WL.step rfl (OP.load1 (v := .int .i64 y) rfl rfl rfl rfl (hel MM) rfl rfl ?_)
      by_cases hy : u < y
      · rw [if_pos hy] at hsn
        have hl1 : (W ++ [y]).length = W.length + 1 := by simp
        repeat (first | refine GD ?_ | refine NW fun _ => ?_)
        refine WL.step rfl (OP.load1 (v := .int .i64 y) rfl rfl rfl rfl (hel MM) rfl rfl ?_)
        repeat (first | refine GD ?_ | refine NW fun _ => ?_)
        refine WL.step rfl (OP.append (ds := [iV y]) rfl rfl rfl rfl rfl rfl rfl rfl rfl P1 (Ent.own MM) rfl (by omega) (by omega) rfl rfl (fun a' cap' => ?_))
        repeat (first | refine GD ?_ | refine NW fun _ => ?_)
        exact ⟨(k + 1, a', cap'), by dsimp only; omega, by dsimp only; omega, ⟨rfl, rfl, rfl, by dsimp only; rw [hsn, hl1]; rfl, rfl, rfl, trivial⟩, by dsimp only; rw [hsn, hl1, List.map_append]; exact II⟩
      · rw [if_neg hy] at hsn
        repeat (first | refine GD ?_ | refine NW fun _ => ?_)
        exact ⟨(k + 1, a9, c9), by dsimp only; omega, by dsimp only; omega, ⟨rfl, rfl, rfl, by dsimp only; rw [hsn]; rfl, rfl, rfl, trivial⟩, by dsimp only; rw [hsn]; exact II⟩
    obtain rfl : k = (Lf 2).length := by omega
    rw [List.take_length]
    repeat (first | refine GD ?_ | refine NW fun _ => ?_)
    refine ret0n ⟨[rtab q (forgetL Lf 2 u)], ⟨rfl, rfl⟩, ?_⟩
    exact Imp.trans II (rtabFold q (forgetL Lf 2 u) ((a0, c0), (a1, c1), (a9, c9), (a3, c3)) (forgetL_ne (by decide)) (forgetL_ne (by decide)) (forgetL_at Lf 2 u) (forgetL_ne (by decide)) rfl rfl rfl rfl)
  · repeat (first | refine GD ?_ | refine NW fun _ => ?_)
    refine WC.imp (Imp.nilS 3 1) ?_
    refine WC.loop (σ := Nat × Option Addr × Nat) (fun s => s.1 ≤ (Lf 3).length)
      (fun s => [(0, .val (.pointer (some ⟨q, 0, none⟩))), (1, .val (.int .i64 3)), (2, .val (.int .i64 u)), (6, .val (.slice s.2.1 (aftM u ((Lf 3).take s.1)).length s.2.2)), (17, .val (.int .i64 (Lf 3).length)), (18, .val (.int .i64 s.1))])
      (fun s => [ownS s.2.1 (aftM u ((Lf 3).take s.1)).length s.2.2 3 1 ((aftM u ((Lf 3).take s.1)).map iV), blk q [.slice a0 (Lf 0).length c0, .slice a1 (Lf 1).length c1, .slice a2 (Lf 2).length c2, .slice a3 (Lf 3).length c3] 43, ownS a0 (Lf 0).length c0 3 1 ((Lf 0).map iV), ownS a1 (Lf 1).length c1 3 1 ((Lf 1).map iV), ownS a2 (Lf 2).length c2 3 1 ((Lf 2).map iV), ownS a3 (Lf 3).length c3 3 1 ((Lf 3).map iV), F]) (fun s => (Lf 3).length - s.1) (0, none, 0) (Nat.zero_le _) ⟨rfl, rfl, rfl, rfl, rfl, rfl, trivial⟩ II ?_
    rintro ⟨k, a9, c9⟩ hk
    dsimp only at hk ⊢
    by_cases hkl : k < (Lf 3).length
    · have hsn : aftM u ((Lf 3).take (k + 1)) = if u < (Lf 3)[k] then aftM u ((Lf 3).take k) ++ [(Lf 3)[k]] else aftM u ((Lf 3).take k) := by rw [← List.take_append_getElem hkl, aftM_snoc]
      have hle : (aftM u ((Lf 3).take k)).length ≤ (Lf 3).length := Nat.le_trans (List.length_filter_le _ _) (by rw [List.length_take]; omega)
      refine WC.fact (fun h s => Ent.some (Ent.own (T := 3) (cap := c3) (cs := (Lf 3).map iV) MM) (show 0 < (Lf 3).length by omega) h s) ?_
      rintro ⟨b, off, rfl⟩
      have hel : ∀ {L}, ownS (some ⟨b, off, none⟩) (Lf 3).length c3 3 1 ((Lf 3).map iV) ∈ L → Ent L (cellAt b (off + k * 1) (iV (Lf 3)[k])) := fun m => Ent.elem (Ent.own m) rfl (int_get hkl)
      generalize (Lf 3)[k] = y at *
      generalize aftM u ((Lf 3).take k) = W at *
      repeat (first | refine GD ?_ | refine NW fun _ => ?_)
      refine WL.step rfl (OP.load1 (v := .int .i64 y) rfl rfl rfl rfl (hel MM) rfl rfl ?_)
      by_cases hy : u < y
      · rw [if_pos hy] at hsn
        have hl1 : (W ++ [y]).length = W.length + 1 := by simp
        repeat (first | refine GD ?_ | refine NW fun _ => ?_)
        refine WL.step rfl (OP.load1 (v := .int .i64 y) rfl rfl rfl rfl (hel MM) rfl rfl ?_)
        repeat (first | refine GD ?_ | refine NW fun _ => ?_)
        refine WL.step rfl (OP.append (ds := [iV y]) rfl rfl rfl rfl rfl rfl rfl rfl rfl P1 (Ent.own MM) rfl (by omega) (by omega) rfl rfl (fun a' cap' => ?_))
        repeat (first | refine GD ?_ | refine NW fun _ => ?_)
        exact ⟨(k + 1, a', cap'), by dsimp only; omega, by dsimp only; omega, ⟨rfl, rfl, rfl, by dsimp only; rw [hsn, hl1]; rfl, rfl, rfl, trivial⟩, by dsimp only; rw [hsn, hl1, List.map_append]; exact II⟩
      · rw [if_neg hy] at hsn
        repeat (first | refine GD ?_ | refine NW fun _ => ?_)
        exact ⟨(k + 1, a9, c9), by dsimp only; omega, by dsimp only; omega, ⟨rfl, rfl, rfl, by dsimp only; rw [hsn]; rfl, rfl, rfl, trivial⟩, by dsimp only; rw [hsn]; exact II⟩
    obtain rfl : k = (Lf 3).length := by omega
    rw [List.take_length]
    repeat (first | refine GD ?_ | refine NW fun _ => ?_)
    refine ret0n ⟨[rtab q (forgetL Lf 3 u)], ⟨rfl, rfl⟩, ?_⟩
    exact Imp.trans II (rtabFold q (forgetL Lf 3 u) ((a0, c0), (a1, c1), (a2, c2), (a9, c9)) (forgetL_ne (by decide)) (forgetL_ne (by decide)) (forgetL_ne (by decide)) (forgetL_at Lf 3 u) rfl rfl rfl rfl)
def rowL (Lf : Int → List Int) (v : Int) : List Int := if v = 0 then Lf 0 else if v = 1 then Lf 1 else if v = 2 then Lf 2 else if v = 3 then Lf 3 else []
def rofA (x : RHid) (v : Int) : Option Addr := if v = 0 then x.1.1 else if v = 1 then x.2.1.1 else if v = 2 then x.2.2.1.1 else if v = 3 then x.2.2.2.1 else none
def rofC (x : RHid) (v : Int) : Nat := if v = 0 then x.1.2 else if v = 1 then x.2.1.2 else if v = 2 then x.2.2.1.2 else if v = 3 then x.2.2.2.2 else 0
theorem rof_read {q : Nat} {Lf : Int → List Int} {x : RHid} {A : Assn} {L : List Assn} (hu : Up A) (hA : ∀ k, A k → stars (rtabL q Lf x) k) (m : A ∈ L) (v : Int) : Ent L (readI (rofA x v) (rowL Lf v).length (rowL Lf v)) := by
  unfold rofA rowL readI
  by_cases h0 : v = 0
  · subst h0; exact Ent.of hu hA m (Ent.own (T := 3) (cap := x.1.2) (by unfold rtabL; exact MM))
  by_cases h1 : v = 1
  · subst h1; exact Ent.of hu hA m (Ent.own (T := 3) (cap := x.2.1.2) (by unfold rtabL; exact MM))
  by_cases h2 : v = 2
  · subst h2; exact Ent.of hu hA m (Ent.own (T := 3) (cap := x.2.2.1.2) (by unfold rtabL; exact MM))
  by_cases h3 : v = 3
  · subst h3; exact Ent.of hu hA m (Ent.own (T := 3) (cap := x.2.2.2.2) (by unfold rtabL; exact MM))
  rw [if_neg h0, if_neg h1, if_neg h2, if_neg h3, if_neg h0, if_neg h1, if_neg h2, if_neg h3]
  exact fun _ _ => ⟨rfl, .inl ⟨rfl, rfl⟩⟩
set_option maxRecDepth 10000 in
theorem rof_ro (q : Nat) (Lf : Int → List Int) (x : RHid) (v : Int) : RO G 16 [.pointer (some ⟨q, 0, none⟩), .int .i64 v] (stars (rtabL q Lf x)) (.slice (rofA x v) (rowL Lf v).length (rofC x v)) := by
  refine RO.enter Tryd.func16 rfl (by decide) rfl Tryd.ntmps16 rfl (fun A hu hA => ?_) (up_stars _)
  have hB : ∀ {L}, A ∈ L → Ent L (cellsAt q 0 [.slice x.1.1 (Lf 0).length x.1.2, .slice x.2.1.1 (Lf 1).length x.2.1.2, .slice x.2.2.1.1 (Lf 2).length x.2.2.1.2, .slice x.2.2.2.1 (Lf 3).length x.2.2.2.2]) := fun m => Ent.of hu hA m (Ent.whole (List.Mem.head _))
  clear hA
  repeat (first | refine GD ?_ | refine NW fun _ => ?_)
  refine WL.step rfl (OP.callRO rfl rfl (rin_ro v) (fun _ _ => trivial) rfl rfl ?_)
  by_cases hv : 0 ≤ v ∧ v < 4
  rotate_left
  · rw [decide_eq_false hv]
    have e1 : rofA x v = none := by unfold rofA; rw [if_neg (by omega), if_neg (by omega), if_neg (by omega), if_neg (by omega)]
    have e2 : rofC x v = 0 := by unfold rofC; rw [if_neg (by omega), if_neg (by omega), if_neg (by omega), if_neg (by omega)]
    have e3 : rowL Lf v = [] := by unfold rowL; rw [if_neg (by omega), if_neg (by omega), if_neg (by omega), if_neg (by omega)]
    rw [e1, e2, e3]
    repeat (first | refine GD ?_ | refine NW fun _ => ?_)
    exact ret1 rfl ⟨rfl, MM⟩
  rw [decide_eq_true hv]
  have hv : v = 0 ∨ v = 1 ∨ v = 2 ∨ v = 3 := by omega
  rcases hv with rfl | rfl | rfl | rfl
  · repeat (first | refine GD ?_ | refine NW fun _ => ?_)
    refine WL.step rfl (OP.load1 (v := .slice x.1.1 (Lf 0).length x.1.2) rfl rfl rfl rfl (Ent.one (i := 0) (hB MM) rfl) rfl rfl ?_)
    repeat (first | refine GD ?_ | refine NW fun _ => ?_)
    exact ret1 rfl ⟨rfl, MM⟩
  · repeat (first | refine GD ?_ | refine NW fun _ => ?_)
    refine WL.step rfl (OP.load1 (v := .slice x.2.1.1 (Lf 1).length x.2.1.2) rfl rfl rfl rfl (Ent.one (i := 1) (hB MM) rfl) rfl rfl ?_)
    repeat (first | refine GD ?_ | refine NW fun _ => ?_)
    exact ret1 rfl ⟨rfl, MM⟩
  · repeat (first | refine GD ?_ | refine NW fun _ => ?_)
    refine WL.step rfl (OP.load1 (v := .slice x.2.2.1.1 (Lf 2).length x.2.2.1.2) rfl rfl rfl rfl (Ent.one (i := 2) (hB MM) rfl) rfl rfl ?_)
    repeat (first | refine GD ?_ | refine NW fun _ => ?_)
    exact ret1 rfl ⟨rfl, MM⟩
  · repeat (first | refine GD ?_ | refine NW fun _ => ?_)
    refine WL.step rfl (OP.load1 (v := .slice x.2.2.2.1 (Lf 3).length x.2.2.2.2) rfl rfl rfl rfl (Ent.one (i := 3) (hB MM) rfl) rfl rfl ?_)
    repeat (first | refine GD ?_ | refine NW fun _ => ?_)
    exact ret1 rfl ⟨rfl, MM⟩
set_option maxRecDepth 10000 in
theorem rhasm_ro (q : Nat) (Lf : Int → List Int) (v m : Int) (hs : ∀ v, (Lf v).length < 100000) : RO G 27 [.pointer (some ⟨q, 0, none⟩), .int .i64 v, .int .i64 m] (rtab q Lf) (.bool ((rowL Lf v).contains m)) := by
  refine RO.enterEx Tryd.func27 rfl (by decide) rfl Tryd.ntmps27 rfl (fun x A hu hA => ?_)
  have h0 := hs 0
  have h1 := hs 1
  have h2 := hs 2
  have h3 := hs 3
  have hB : ∀ {L}, A ∈ L → Ent L (cellsAt q 0 [.slice x.1.1 (Lf 0).length x.1.2, .slice x.2.1.1 (Lf 1).length x.2.1.2, .slice x.2.2.1.1 (Lf 2).length x.2.2.1.2, .slice x.2.2.2.1 (Lf 3).length x.2.2.2.2]) := fun m => Ent.of hu hA m (Ent.whole (List.Mem.head _))
  have hR : ∀ {L} (v : Int), A ∈ L → Ent L (readI (rofA x v) (rowL Lf v).length (rowL Lf v)) := fun v m => rof_read hu hA m v
  clear hA
  repeat (first | refine GD ?_ | refine NW fun _ => ?_)
  refine WL.step rfl (OP.callRO rfl rfl (rin_ro v) (fun _ _ => trivial) rfl rfl ?_)
  by_cases hv : 0 ≤ v ∧ v < 4
  rotate_left
  · rw [decide_eq_false hv]
    have e3 : rowL Lf v = [] := by unfold rowL; rw [if_neg (by omega), if_neg (by omega), if_neg (by omega), if_neg (by omega)]
    rw [e3]
    repeat (first | refine GD ?_ | refine NW fun _ => ?_)
    exact ret1 rfl ⟨rfl, MM⟩
  rw [decide_eq_true hv]
  have hv : v = 0 ∨ v = 1 ∨ v = 2 ∨ v = 3 := by omega
  rcases hv with rfl | rfl | rfl | rfl
  · repeat (first | refine GD ?_ | refine NW fun _ => ?_)
    refine WL.guardT rfl rfl rfl rfl (OP.load1 (v := .slice x.1.1 (Lf 0).length x.1.2) rfl rfl rfl rfl (Ent.one (i := 0) (hB MM) rfl) rfl rfl ?_)
    repeat (first | refine GD ?_ | refine NW fun _ => ?_)
    refine WL.guardT rfl rfl rfl rfl (OP.callRO rfl rfl (rhas_ro x.1.1 (Lf 0).length x.1.2 (Lf 0) m rfl (by omega)) (hR 0 MM) rfl rfl ?_)
    repeat (first | refine GD ?_ | refine NW fun _ => ?_)
    exact ret1 rfl ⟨by show Value.bool (bif true then (Lf 0).contains m else false) = _; rfl, MM⟩
  · repeat (first | refine GD ?_ | refine NW fun _ => ?_)
    refine WL.guardT rfl rfl rfl rfl (OP.load1 (v := .slice x.2.1.1 (Lf 1).length x.2.1.2) rfl rfl rfl rfl (Ent.one (i := 1) (hB MM) rfl) rfl rfl ?_)
    repeat (first | refine GD ?_ | refine NW fun _ => ?_)
    refine WL.guardT rfl rfl rfl rfl (OP.callRO rfl rfl (rhas_ro x.2.1.1 (Lf 1).length x.2.1.2 (Lf 1) m rfl (by omega)) (hR 1 MM) rfl rfl ?_)
    repeat (first | refine GD ?_ | refine NW fun _ => ?_)
    exact ret1 rfl ⟨by show Value.bool (bif true then (Lf 1).contains m else false) = _; rfl, MM⟩
  · repeat (first | refine GD ?_ | refine NW fun _ => ?_)
    refine WL.guardT rfl rfl rfl rfl (OP.load1 (v := .slice x.2.2.1.1 (Lf 2).length x.2.2.1.2) rfl rfl rfl rfl (Ent.one (i := 2) (hB MM) rfl) rfl rfl ?_)
    repeat (first | refine GD ?_ | refine NW fun _ => ?_)
    refine WL.guardT rfl rfl rfl rfl (OP.callRO rfl rfl (rhas_ro x.2.2.1.1 (Lf 2).length x.2.2.1.2 (Lf 2) m rfl (by omega)) (hR 2 MM) rfl rfl ?_)
    repeat (first | refine GD ?_ | refine NW fun _ => ?_)
    exact ret1 rfl ⟨by show Value.bool (bif true then (Lf 2).contains m else false) = _; rfl, MM⟩
  · repeat (first | refine GD ?_ | refine NW fun _ => ?_)
    refine WL.guardT rfl rfl rfl rfl (OP.load1 (v := .slice x.2.2.2.1 (Lf 3).length x.2.2.2.2) rfl rfl rfl rfl (Ent.one (i := 3) (hB MM) rfl) rfl rfl ?_)
    repeat (first | refine GD ?_ | refine NW fun _ => ?_)
    refine WL.guardT rfl rfl rfl rfl (OP.callRO rfl rfl (rhas_ro x.2.2.2.1 (Lf 3).length x.2.2.2.2 (Lf 3) m rfl (by omega)) (hR 3 MM) rfl rfl ?_)
    repeat (first | refine GD ?_ | refine NW fun _ => ?_)
    exact ret1 rfl ⟨by show Value.bool (bif true then (Lf 3).contains m else false) = _; rfl, MM⟩
end Go.Proofs.YtacgheafbkfciaaDoor
