/- Contracts of functions of the given program, and plain laws: parts of the proofs of laws. -/
import Derived.Test.YtacgheafbkfciaaDoorZMK4
import Derived.Test.YtacgheafbkfciaaDoorZMK9
import Derived.Test.YtacgheafbkfciaaDoorZMK6
/- Contracts of functions of the given program, and plain laws on what they compute: parts of the proofs of laws. -/

namespace Go.Proofs.YtacgheafbkfciaaDoor
open Go Go.GL

def lacksL (Lf : Int → List Int) (mark : Int) (vols : List Int) : List Int := vols.filter (fun v => !(rowL Lf v).contains mark)
theorem lacksL_snoc (Lf : Int → List Int) (mark : Int) (l : List Int) (v : Int) : lacksL Lf mark (l ++ [v]) = if (rowL Lf v).contains mark = true then lacksL Lf mark l else lacksL Lf mark l ++ [v] := by
  unfold lacksL
  rw [List.filter_append]
  by_cases h : (rowL Lf v).contains mark = true
  · rw [if_pos h, List.filter_cons_of_neg (by rw [h]; decide)]; simp
  · rw [if_neg h, List.filter_cons_of_pos (by rw [Bool.not_eq_true] at h; rw [h]; rfl)]; rfl
set_option maxHeartbeats 2000000 in
set_option maxRecDepth 10000 in
theorem rlacks_rt (q : Nat) (Lf : Int → List Int) (mark : Int) (a : Option Addr) (n c : Nat) (vols : List Int) (hn : n = vols.length) (hs : n < 100000) (hl : ∀ v, (Lf v).length < 100000) :
    RT G 18 [.pointer (some ⟨q, 0, none⟩), .int .i64 mark, .slice a n c] (fun h => rtab q Lf h ∧ readI a n vols h) (IntsPost (lacksL Lf mark vols)) := by
  refine RT.enter Tryd.func18 rfl (by decide) rfl Tryd.ntmps18 rfl (fun A hu hA => ?_)
  have hT : ∀ {L}, A ∈ L → Ent L (rtab q Lf) := fun m => Ent.mem m hu fun k h => (hA k h).1
  have hV : ∀ {L}, A ∈ L → Ent L (readS a n 1 (vols.map iV)) := fun m => Ent.mem m hu fun k h => (hA k h).2
  have hh := fun v => rhasm_ro q Lf v mark hl
  repeat (first | refine GD ?_ | refine NW fun _ => ?_)
  refine WC.imp (Imp.nilS 3 1) ?_
  refine WC.loop (σ := Nat × Option Addr × Nat) (fun s => s.1 ≤ n)
    (fun s => [(0, .val (.pointer (some ⟨q, 0, none⟩))), (1, .val (.int .i64 mark)), (2, .val (.slice a n c)), (7, .val (.slice s.2.1 (lacksL Lf mark (vols.take s.1)).length s.2.2)), (10, .val (.int .i64 n)), (11, .val (.int .i64 s.1))])
    (fun s => [ownS s.2.1 (lacksL Lf mark (vols.take s.1)).length s.2.2 3 1 ((lacksL Lf mark (vols.take s.1)).map iV), A]) (fun s => n - s.1) (0, none, 0) (Nat.zero_le _) ⟨rfl, rfl, rfl, rfl, rfl, rfl, trivial⟩ (Imp.refl _) ?_
  rintro ⟨k, a7, cap⟩ hk
  dsimp only at hk ⊢
  by_cases hlt : k < n
  rotate_left
  · have he : k = vols.length := by omega
    subst he
    rw [List.take_length]
    repeat (first | refine GD ?_ | refine NW fun _ => ?_)
    exact ret1 rfl ⟨_, ⟨a7, cap, rfl, rfl⟩, Imp.refl _⟩
  have hlk : k < vols.length := by omega
  have hsn : lacksL Lf mark (vols.take (k + 1)) = if (rowL Lf vols[k]).contains mark = true then lacksL Lf mark (vols.take k) else lacksL Lf mark (vols.take k) ++ [vols[k]] := by
    rw [← List.take_append_getElem hlk, lacksL_snoc]
  have hll : (lacksL Lf mark (vols.take k)).length ≤ k := Nat.le_trans (List.length_filter_le _ _) (by rw [List.length_take]; omega)
  refine WC.fact (Ent.some (hV MM) (by omega)) ?_
  rintro ⟨b, off, rfl⟩
  have hel : ∀ {L}, A ∈ L → Ent L (cellAt b (off + k * 1) (iV vols[k])) := fun m => Ent.elem (hV m) rfl (int_get hlk)
  generalize hvk : vols[k] = v at *
  generalize lacksL Lf mark (vols.take k) = out at *
  repeat (first | refine GD ?_ | refine NW fun _ => ?_)
  refine WL.step rfl (OP.load1 (v := .int .i64 v) rfl rfl rfl rfl (hel MM) rfl rfl ?_)
  repeat (first | refine GD ?_ | refine NW fun _ => ?_)
  refine WL.step rfl (OP.callRO rfl rfl (hh v) (hT MM) rfl rfl ?_)
  have hl1 : (out ++ [v]).length = out.length + 1 := by simp
  cases hr : (rowL Lf v).contains mark with
  | true =>
    rw [hr, if_pos rfl] at hsn
    repeat (first | refine GD ?_ | refine NW fun _ => ?_)
    exact ⟨(k + 1, a7, cap), by dsimp only; omega, by dsimp only; omega, ⟨rfl, rfl, rfl, by dsimp only; rw [hsn]; rfl, rfl, rfl, trivial⟩, by dsimp only; rw [hsn]; exact II⟩
  | false =>
    rw [hr, if_neg (by decide)] at hsn
    repeat (first | refine GD ?_ | refine NW fun _ => ?_)
    refine WL.step rfl (OP.load1 (v := .int .i64 v) rfl rfl rfl rfl (hel MM) rfl rfl ?_)
    repeat (first | refine GD ?_ | refine NW fun _ => ?_)
    refine WL.step rfl (OP.append (ds := [iV v]) rfl rfl rfl rfl rfl rfl rfl rfl rfl P1 (Ent.own MM) rfl (by omega) (by omega) rfl rfl (fun a' cap' => ?_))
    repeat (first | refine GD ?_ | refine NW fun _ => ?_)
    refine ⟨(k + 1, a', cap'), by dsimp only; omega, by dsimp only; omega, ⟨rfl, rfl, rfl, by dsimp only; rw [hsn, hl1]; rfl, rfl, rfl, trivial⟩, by dsimp only; rw [hsn, hl1, List.map_append]; exact II⟩
/-- the newest, as the document counts it -/
def newStep (Lf : Int → List Int) (vols : List Int) (n m : Int) : Int := if (lacksL Lf m vols).length = 0 then (if n < m then m else n) else n
def newL (Lf : Int → List Int) (vols : List Int) : Int := match vols with
  | [] => 0
  | v :: _ => (rowL Lf v).foldl (newStep Lf vols) 0
set_option maxHeartbeats 4000000 in
set_option maxRecDepth 10000 in
theorem rnewest_ro (q : Nat) (Lf : Int → List Int) (a : Option Addr) (n c : Nat) (vols : List Int) (hn : n = vols.length) (hs : n < 100000) (hl : ∀ v, (Lf v).length < 100000) :
    RO G 17 [.pointer (some ⟨q, 0, none⟩), .slice a n c] (fun h => rtab q Lf h ∧ readI a n vols h) (.int .i64 (newL Lf vols)) := by
  refine RO.pre (R' := exA (fun x : RHid => [fun h => stars (rtabL q Lf x) h ∧ readI a n vols h])) ?_ (fun k ⟨⟨x, h1⟩, h2⟩ => ⟨x, one_star ⟨h1, h2⟩⟩)
  refine RO.enterEx Tryd.func17 rfl (by decide) rfl Tryd.ntmps17 rfl (fun x A hu hA0 => ?_)
  have hA1 : ∀ k, A k → stars (rtabL q Lf x) k ∧ readI a n vols k := fun k h => star_one (up_and (up_stars _) (up_readS _ _ _ _)) (hA0 k h)
  have hS : ∀ {L}, A ∈ L → Ent L (stars (rtabL q Lf x)) := fun m => Ent.mem m hu fun k h => (hA1 k h).1
  have hV : ∀ {L}, A ∈ L → Ent L (readS a n 1 (vols.map iV)) := fun m => Ent.mem m hu fun k h => (hA1 k h).2
  have hLE : ∀ {L}, A ∈ L → Ent L (fun h => rtab q Lf h ∧ readI a n vols h) := fun m => Ent.mem m hu fun k h => ⟨⟨x, (hA1 k h).1⟩, (hA1 k h).2⟩
  have hR : ∀ {L} (v : Int), A ∈ L → Ent L (readI (rofA x v) (rowL Lf v).length (rowL Lf v)) := fun v m => rof_read hu (fun k h => (hA1 k h).1) m v
  have hrl : ∀ v, (rowL Lf v).length < 100000 := fun v => by
    unfold rowL
    split
    · exact hl 0
    · split
      · exact hl 1
      · split
        · exact hl 2
        · split
          · exact hl 3
          · decide
  clear hA0
  cases vols with
  | nil =>
    subst hn
    repeat (first | refine GD ?_ | refine NW fun _ => ?_)
    exact ret1 rfl ⟨rfl, MM⟩
  | cons v0 vs =>
    have hn0 : 0 < n := by rw [hn]; simp
    obtain ⟨vols, hvols⟩ : ∃ vols, v0 :: vs = vols := ⟨_, rfl⟩
    have hnl : newL Lf (v0 :: vs) = (rowL Lf v0).foldl (newStep Lf vols) 0 := by rw [← hvols]; rfl
    rw [hnl]
    refine WC.fact (Ent.some (hV MM) hn0) ?_
    rintro ⟨b, off, rfl⟩
    have hel : ∀ {L}, A ∈ L → Ent L (cellAt b (off + 0 * 1) (iV v0)) := fun m => Ent.elem (i := 0 * 1) (hV m) rfl rfl
    rw [hvols] at hn hLE
    have hr1 := hrl v0
    have hr2 := fun {L} (m : A ∈ L) => hR (L := L) v0 m
    have hlk := fun m => rlacks_rt q Lf m (some ⟨b, off, none⟩) n c vols hn hs hl
    have hof := rof_ro q Lf x v0
    generalize rowL Lf v0 = r at *
    generalize rofA x v0 = ra at *
    generalize rofC x v0 = rc at *
    repeat (first | refine GD ?_ | refine NW fun _ => ?_)
    refine WL.step rfl (OP.load1 (v := .int .i64 v0) rfl rfl rfl rfl (hel MM) rfl rfl ?_)
    refine WL.step rfl (OP.callRO rfl rfl hof (hS MM) rfl rfl ?_)
    repeat (first | refine GD ?_ | refine NW fun _ => ?_)
    refine WC.loop (σ := Nat) (fun j => j ≤ r.length)
      (fun j => [(0, .val (.pointer (some ⟨q, 0, none⟩))), (1, .val (.slice (some ⟨b, off, none⟩) n c)), (5, .val (.int .i64 ((r.take j).foldl (newStep Lf vols) 0))), (6, .val (.slice ra r.length rc)), (17, .val (.int .i64 r.length)), (18, .val (.int .i64 j))])
      (fun _ => [A]) (fun j => r.length - j) 0 (Nat.zero_le _) ⟨rfl, rfl, rfl, rfl, rfl, rfl, trivial⟩ (Imp.refl _) ?_
    rintro j hj
    by_cases hlj : j < r.length
    · have hsn : (r.take (j + 1)).foldl (newStep Lf vols) 0 = newStep Lf vols ((r.take j).foldl (newStep Lf vols) 0) r[j] := by rw [← List.take_append_getElem hlj, List.foldl_append]; rfl
      refine WC.fact (Ent.some (hr2 MM) (by omega)) ?_
      rintro ⟨b2, off2, rfl⟩
      have hel2 : ∀ {L}, A ∈ L → Ent L (cellAt b2 (off2 + j * 1) (iV r[j])) := fun m => Ent.elem (hr2 m) rfl (int_get hlj)
      generalize r[j] = y at *
      generalize (r.take j).foldl (newStep Lf vols) 0 = w at *
      rw [show newStep Lf vols w y = if (lacksL Lf y vols).length = 0 then (if w < y then y else w) else w from rfl] at hsn
      repeat (first | refine GD ?_ | refine NW fun _ => ?_)
      refine WL.step rfl (OP.load1 (v := .int .i64 y) rfl rfl rfl rfl (hel2 MM) rfl rfl ?_)
      repeat (first | refine GD ?_ | refine NW fun _ => ?_)
      refine WL.step rfl (OP.callRT rfl rfl (hlk y) (hLE MM) rfl rfl ?_)
      rintro _ _ ⟨aL, capL, rfl, rfl⟩
      by_cases hz : (lacksL Lf y vols).length = 0
      · rw [if_pos hz] at hsn
        have hz2 : ((lacksL Lf y vols).length : Int) = 0 := by rw [hz]; rfl
        repeat (first | refine GD ?_ | refine NW fun _ => ?_)
        refine WL.step rfl (OP.load1 (v := .int .i64 y) rfl rfl rfl rfl (hel2 MM) rfl rfl ?_)
        repeat (first | refine GD ?_ | refine NW fun _ => ?_)
        refine ⟨j + 1, by omega, by omega, ⟨rfl, rfl, by rw [hsn]; rfl, rfl, rfl, rfl, trivial⟩, II⟩
      · rw [if_neg hz] at hsn
        have hz2 : ¬ ((lacksL Lf y vols).length : Int) = 0 := by omega
        repeat (first | refine GD ?_ | refine NW fun _ => ?_)
        refine ⟨j + 1, by omega, by omega, ⟨rfl, rfl, by rw [hsn]; rfl, rfl, rfl, rfl, trivial⟩, II⟩
    · obtain rfl : j = r.length := by omega
      rw [List.take_length]
      repeat (first | refine GD ?_ | refine NW fun _ => ?_)
      exact ret1 rfl ⟨rfl, MM⟩
/-! the plain law: both tables tell the same -/
def RInv (S : Int → Int → Bool) (Lf : Int → List Int) : Prop := ∀ v, 0 ≤ v → v < 4 → SortedOf (S v) (Lf v)
theorem RInv.row {S : Int → Int → Bool} {Lf : Int → List Int} (I : RInv S Lf) (v : Int) : SortedOf (rowS S v) (rowL Lf v) := by
  unfold rowS rowL
  by_cases h0 : v = 0
  · subst h0; exact I 0 (by decide) (by decide)
  by_cases h1 : v = 1
  · subst h1; exact I 1 (by decide) (by decide)
  by_cases h2 : v = 2
  · subst h2; exact I 2 (by decide) (by decide)
  by_cases h3 : v = 3
  · subst h3; exact I 3 (by decide) (by decide)
  rw [if_neg h0, if_neg h1, if_neg h2, if_neg h3, if_neg (by omega)]
  exact ⟨List.Pairwise.nil, fun k => by simp⟩
theorem RInv.has {S : Int → Int → Bool} {Lf : Int → List Int} (I : RInv S Lf) (v m : Int) : (rowL Lf v).contains m = rowS S v m := by
  rw [Bool.eq_iff_iff, List.contains_eq_mem, decide_eq_true_eq]
  exact (I.row v).2 m
theorem RInv.lacks {S : Int → Int → Bool} {Lf : Int → List Int} (I : RInv S Lf) (m : Int) (vols : List Int) : lacksL Lf m vols = lacksS S m vols := by
  unfold lacksL lacksS
  congr 1
  funext v
  rw [I.has]
theorem RInv.newest {S : Int → Int → Bool} {Lf : Int → List Int} (I : RInv S Lf) (vols : List Int) : IsNew S vols (newL Lf vols) := by
  have go : ∀ (r : List Int) (n0 : Int), n0 ≤ r.foldl (newStep Lf vols) n0 ∧ (r.foldl (newStep Lf vols) n0 = n0 ∨ lacksS S (r.foldl (newStep Lf vols) n0) vols = []) ∧ ∀ m ∈ r, lacksS S m vols = [] → m ≤ r.foldl (newStep Lf vols) n0 := by
    intro r
    induction r with
    | nil => intro n0; exact ⟨Int.le_refl _, .inl rfl, fun m h => by cases h⟩
    | cons x r ih =>
      intro n0
      obtain ⟨h1, h2, h3⟩ := ih (newStep Lf vols n0 x)
      rw [List.foldl_cons]
      have hst : newStep Lf vols n0 x = n0 ∨ (newStep Lf vols n0 x = x ∧ lacksS S x vols = []) := by
        unfold newStep
        split
        · rename_i hz
          rw [I.lacks] at hz
          have hz := List.eq_nil_of_length_eq_zero hz
          split
          · exact .inr ⟨rfl, hz⟩
          · exact .inl rfl
        · exact .inl rfl
      have hge : n0 ≤ newStep Lf vols n0 x ∧ (lacksS S x vols = [] → x ≤ newStep Lf vols n0 x) := by
        unfold newStep
        rw [I.lacks]
        split
        · split
          · exact ⟨by omega, fun _ => Int.le_refl _⟩
          · exact ⟨Int.le_refl _, fun _ => by omega⟩
        · rename_i hz
          exact ⟨Int.le_refl _, fun h => absurd (by rw [h]; rfl) hz⟩
      refine ⟨Int.le_trans hge.1 h1, ?_, fun m hm hl => ?_⟩
      · rcases h2 with h2 | h2
        · rw [h2]
          rcases hst with h | ⟨h, hz⟩
          · exact .inl h
          · rw [h]; exact .inr hz
        · exact .inr h2
      · rcases List.mem_cons.1 hm with rfl | hm
        · exact Int.le_trans (hge.2 hl) h1
        · exact h3 m hm hl
  cases vols with
  | nil => exact ⟨Int.le_refl _, .inl rfl, fun m _ h => absurd rfl h⟩
  | cons v0 vs =>
    obtain ⟨h1, h2, h3⟩ := go (rowL Lf v0) 0
    refine ⟨h1, h2.imp id (fun h => ⟨List.cons_ne_nil _ _, h⟩), fun m hm _ hl => ?_⟩
    refine h3 m ?_ hl
    exact ((I.row v0).2 m).2 (lacks_head hl List.mem_cons_self)
theorem IsNew.uniq {S : Int → Int → Bool} {vols : List Int} {a b : Int} (ha : IsNew S vols a) (hb : IsNew S vols b) : a = b := by
  have h : ∀ {a b : Int}, IsNew S vols a → IsNew S vols b → a ≤ b := fun {a b} ha hb => by
    rcases ha.2.1 with h | ⟨h1, h2⟩
    · have := hb.1; omega
    · by_cases hz : 0 < a
      · exact hb.2.2 a hz h1 h2
      · have := hb.1; omega
  exact Int.le_antisymm (h ha hb) (h hb ha)
theorem RInv.none : RInv noS noL := fun _ _ _ => ⟨List.Pairwise.nil, fun k => by simp [noL, noS]⟩
theorem RInv.put {S : Int → Int → Bool} {Lf : Int → List Int} (I : RInv S Lf) (v m : Int) : RInv (stepS S v m) (rputE Lf v m).2 := by
  intro a h0 h4
  have hst := stepS_eq S v m a
  unfold rputE
  by_cases hv : 0 ≤ v ∧ v < 4
  rotate_left
  · rw [if_pos hv]
    refine ⟨(I a h0 h4).1, fun k => ?_⟩
    rw [hst, (I a h0 h4).2, Bool.or_eq_true, decide_eq_true_eq]
    exact ⟨.inl, fun h => h.elim id fun h => absurd ⟨h.2.2.1, h.2.2.2.1⟩ hv⟩
  rw [if_neg (by omega)]
  by_cases hm : m < 1
  · rw [if_pos hm]
    refine ⟨(I a h0 h4).1, fun k => ?_⟩
    rw [hst, (I a h0 h4).2, Bool.or_eq_true, decide_eq_true_eq]
    exact ⟨.inl, fun h => h.elim id fun h => absurd h.2.2.2.2 (by omega)⟩
  rw [if_neg hm]
  have hc : (Lf v).contains m = true ↔ S v m = true := by rw [List.contains_eq_mem, decide_eq_true_eq]; exact (I v hv.1 hv.2).2 m
  by_cases hcm : (Lf v).contains m = true
  · rw [if_pos hcm]
    refine ⟨(I a h0 h4).1, fun k => ?_⟩
    rw [hst, (I a h0 h4).2, Bool.or_eq_true, decide_eq_true_eq]
    exact ⟨.inl, fun h => h.elim id fun h => by rw [h.1, h.2.1]; exact hc.1 hcm⟩
  · rw [if_neg hcm]
    dsimp only
    by_cases hav : a = v
    · subst hav
      rw [putL_at]
      refine ⟨insM_sorted (I a h0 h4).1 (fun h => hcm (by rw [List.contains_eq_mem, decide_eq_true_eq]; exact h)), fun k => ?_⟩
      rw [hst, insM_mem, (I a h0 h4).2, Bool.or_eq_true, decide_eq_true_eq]
      constructor
      · rintro (rfl | h)
        · exact .inr ⟨rfl, rfl, h0, h4, by omega⟩
        · exact .inl h
      · rintro (h | h)
        · exact .inr h
        · exact .inl h.2.1
    · rw [putL_ne hav]
      refine ⟨(I a h0 h4).1, fun k => ?_⟩
      rw [hst, (I a h0 h4).2, Bool.or_eq_true, decide_eq_true_eq]
      exact ⟨.inl, fun h => h.elim id fun h => absurd h.1 hav⟩
theorem RInv.forget {S : Int → Int → Bool} {Lf : Int → List Int} (I : RInv S Lf) (v u : Int) : RInv (forgetS S v u) (rforgetL Lf v u) := by
  intro a h0 h4
  unfold rforgetL
  by_cases hav : a = v
  · subst hav
    rw [if_pos ⟨h0, h4⟩, forgetL_at, forgetS_at]
    refine ⟨(I a h0 h4).1.filter _, fun k => ?_⟩
    unfold aftM
    rw [List.mem_filter, (I a h0 h4).2, Bool.and_eq_true]
  · rw [forgetS_ne hav]
    split
    · rw [forgetL_ne hav]; exact I a h0 h4
    · exact I a h0 h4
theorem rputE_len {Lf : Int → List Int} {K : Nat} (h : ∀ v, (Lf v).length ≤ K) (v m : Int) : ∀ a, ((rputE Lf v m).2 a).length ≤ K + 1 := fun a => by
  unfold rputE
  have := h a
  split
  · exact Nat.le_succ_of_le this
  · split
    · exact Nat.le_succ_of_le this
    · split
      · exact Nat.le_succ_of_le this
      · show (putL Lf v m a).length ≤ K + 1
        unfold putL
        split
        · rw [insM_len]; have := h v; omega
        · exact Nat.le_succ_of_le this
theorem rforgetL_len {Lf : Int → List Int} {K : Nat} (h : ∀ v, (Lf v).length ≤ K) (v u : Int) : ∀ a, (rforgetL Lf v u a).length ≤ K := fun a => by
  unfold rforgetL
  split
  · unfold forgetL
    split
    · exact Nat.le_trans (List.length_filter_le _ _) (h v)
    · exact h a
  · exact h a
end Go.Proofs.YtacgheafbkfciaaDoor
/- Contracts of functions of the given program, and plain laws on what they compute: parts of the proofs of laws. -/

namespace Go.Proofs.YtacgheafbkfciaaDoor
open Go Go.GL Go.Extern

/-- a type's handle -/
def hd (t : Nat) : Value := .pointer (some ⟨1, t, none⟩)
def rt (t : Nat) : Value := .iface 84 (.agg #[hd t])
def errT : Value := rt 29
theorem xValueOf : IsExt Tryd.prog 28 (fun args => ReflectliteValue.unpack (args.getD 0 (.tuple #[]))) := fun args w => run_callFunc_extern (e := (fun args => ReflectliteValue.unpack (args.getD 0 (.tuple #[])))) Tryd.func28 (by kernel_rfl) (by kernel_rfl) (by kernel_rfl) (by kernel_rfl) args w
theorem xType : IsExt Tryd.prog 29 (ReflectliteValue.methodAny (ReflectliteValue.valueError "reflectlite.Value.Type" 0) (fun t _ _ _ => ReflectliteType.toType t)) := fun args w => run_callFunc_extern (e := (ReflectliteValue.methodAny (ReflectliteValue.valueError "reflectlite.Value.Type" 0) (fun t _ _ _ => ReflectliteType.toType t))) Tryd.func29 (by kernel_rfl) (by kernel_rfl) (by kernel_rfl) (by kernel_rfl) args w
theorem xIsNil : IsExt Tryd.prog 30 (ReflectliteValue.method (ReflectliteValue.valueError "reflectlite.Value.IsNil" 0) ReflectliteValue.isNil) := fun args w => run_callFunc_extern (e := (ReflectliteValue.method (ReflectliteValue.valueError "reflectlite.Value.IsNil" 0) ReflectliteValue.isNil)) Tryd.func30 (by kernel_rfl) (by kernel_rfl) (by kernel_rfl) (by kernel_rfl) args w
theorem xKind : IsExt Tryd.prog 73 (ReflectliteType.abiMethod fun t => do pure (.int .u8 (← Rtype.kind t))) := fun args w => run_callFunc_extern (e := (ReflectliteType.abiMethod fun t => do pure (.int .u8 (← Rtype.kind t)))) Tryd.func73 (by kernel_rfl) (by kernel_rfl) (by kernel_rfl) (by kernel_rfl) args w
theorem xElem : IsExt Tryd.prog 85 (ReflectliteType.method ReflectliteType.elem) := fun args w => run_callFunc_extern (e := (ReflectliteType.method ReflectliteType.elem)) Tryd.func85 (by kernel_rfl) (by kernel_rfl) (by kernel_rfl) (by kernel_rfl) args w
theorem xImplements : IsExt Tryd.prog 86 (ReflectliteType.relation "Implements" ReflectliteType.implements_) := fun args w => run_callFunc_extern (e := (ReflectliteType.relation "Implements" ReflectliteType.implements_)) Tryd.func86 (by kernel_rfl) (by kernel_rfl) (by kernel_rfl) (by kernel_rfl) args w
theorem xTypeOf : IsExt Tryd.prog 35 ReflectliteType.typeOf := fun args w => run_callFunc_extern (e := ReflectliteType.typeOf) Tryd.func35 (by kernel_rfl) (by kernel_rfl) (by kernel_rfl) (by kernel_rfl) args w
theorem xAssignableTo : IsExt Tryd.prog 83 (ReflectliteType.relation "AssignableTo" ReflectliteType.assignableTo) := fun args w => run_callFunc_extern (e := (ReflectliteType.relation "AssignableTo" ReflectliteType.assignableTo)) Tryd.func83 (by kernel_rfl) (by kernel_rfl) (by kernel_rfl) (by kernel_rfl) args w
theorem xElemV : IsExt Tryd.prog 36 (ReflectliteValue.method (ReflectliteValue.valueError "reflectlite.Value.Elem" 0) ReflectliteValue.elem) := fun args w => run_callFunc_extern (e := (ReflectliteValue.method (ReflectliteValue.valueError "reflectlite.Value.Elem" 0) ReflectliteValue.elem)) Tryd.func36 (by kernel_rfl) (by kernel_rfl) (by kernel_rfl) (by kernel_rfl) args w
theorem xSet : IsExt Tryd.prog 37 ReflectliteValue.set := fun args w => run_callFunc_extern (e := ReflectliteValue.set) Tryd.func37 (by kernel_rfl) (by kernel_rfl) (by kernel_rfl) (by kernel_rfl) args w
theorem mKind (h : Value) (w : World) : (Go.method (Tryd.prog.types.size + Made.depth) 84 (.agg #[h]) "Kind").run Tryd.prog w = .ok (73, h) w := by kernel_rfl
theorem mElem (h : Value) (w : World) : (Go.method (Tryd.prog.types.size + Made.depth) 84 (.agg #[h]) "Elem").run Tryd.prog w = .ok (85, .agg #[h]) w := by kernel_rfl
theorem mImplements (h : Value) (w : World) : (Go.method (Tryd.prog.types.size + Made.depth) 84 (.agg #[h]) "Implements").run Tryd.prog w = .ok (86, .agg #[h]) w := by kernel_rfl
theorem mAssignableTo (h : Value) (w : World) : (Go.method (Tryd.prog.types.size + Made.depth) 84 (.agg #[h]) "AssignableTo").run Tryd.prog w = .ok (83, .agg #[h]) w := by kernel_rfl
theorem mUnwrap (v : Value) (w : World) : (Go.method (Tryd.prog.types.size + Made.depth) 63 v "Unwrap").run Tryd.prog w = .ok (78, v) w := by kernel_rfl
theorem valueOfNP (t : Addr) (w : World) : (ReflectliteValue.unpack (.iface 55 (.pointer (some t)))).run Tryd.prog w = .ok (.agg #[hd 55, .pointer (some ⟨w.heap.size, 0, none⟩), .int .u64 150]) (w.alloc (.cells #[.pointer (some t)] 55)) := by kernel_rfl
theorem typeNP (a : Addr) (w : World) : ((ReflectliteValue.methodAny (ReflectliteValue.valueError "reflectlite.Value.Type" 0) (fun t _ _ _ => ReflectliteType.toType t)) #[.agg #[hd 55, .pointer (some a), .int .u64 150]]).run Tryd.prog w = .ok (rt 55) w := by kernel_rfl
theorem partsNP (a : Addr) (w : World) : (ReflectliteValue.parts (.agg #[hd 55, .pointer (some a), .int .u64 150])).run Tryd.prog w = .ok (some (55, a, 150)) w := by kernel_rfl
theorem valueOfFF (t : Addr) (w : World) : (ReflectliteValue.unpack (.iface 82 (.pointer (some t)))).run Tryd.prog w = .ok (.agg #[hd 82, .pointer (some ⟨w.heap.size, 0, none⟩), .int .u64 150]) (w.alloc (.cells #[.pointer (some t)] 82)) := by kernel_rfl
theorem typeFF (a : Addr) (w : World) : ((ReflectliteValue.methodAny (ReflectliteValue.valueError "reflectlite.Value.Type" 0) (fun t _ _ _ => ReflectliteType.toType t)) #[.agg #[hd 82, .pointer (some a), .int .u64 150]]).run Tryd.prog w = .ok (rt 82) w := by kernel_rfl
theorem partsFF (a : Addr) (w : World) : (ReflectliteValue.parts (.agg #[hd 82, .pointer (some a), .int .u64 150])).run Tryd.prog w = .ok (some (82, a, 150)) w := by kernel_rfl
theorem rlm (z : Sem Value) (f : TypeId → Addr → Nat → Nat → Sem Value) (v : Value) : ReflectliteValue.method z f #[v] = (do match ← ReflectliteValue.parts v with | none => z | some (t, a, fl) => f t a fl (fl % 32)) := rfl
theorem isNilNP (a p : Addr) (W : World) (ha : W.cell? a = some (.pointer (some p))) : ((ReflectliteValue.method (ReflectliteValue.valueError "reflectlite.Value.IsNil" 0) ReflectliteValue.isNil) #[.agg #[hd 55, .pointer (some a), .int .u64 150]]).run Tryd.prog W = .ok (.bool false) W := by
  rw [rlm]
  simp only [Sem.run_bind, partsNP, Result.andThen]
  simp [ReflectliteValue.isNil, loadVar, isAgg, underlying, Tryd.underlying55, ha, Result.andThen]
theorem isNilFF (a p : Addr) (W : World) (ha : W.cell? a = some (.pointer (some p))) : ((ReflectliteValue.method (ReflectliteValue.valueError "reflectlite.Value.IsNil" 0) ReflectliteValue.isNil) #[.agg #[hd 82, .pointer (some a), .int .u64 150]]).run Tryd.prog W = .ok (.bool false) W := by
  rw [rlm]
  simp only [Sem.run_bind, partsFF, Result.andThen]
  simp [ReflectliteValue.isNil, loadVar, isAgg, underlying, Tryd.underlying82, ha, Result.andThen]
theorem kindNP (w : World) : ((ReflectliteType.abiMethod fun t => do pure (.int .u8 (← Rtype.kind t))) #[hd 55]).run Tryd.prog w = .ok (.int .u8 22) w := by kernel_rfl
theorem kindFF (w : World) : ((ReflectliteType.abiMethod fun t => do pure (.int .u8 (← Rtype.kind t))) #[hd 82]).run Tryd.prog w = .ok (.int .u8 22) w := by kernel_rfl
theorem kindN (w : World) : ((ReflectliteType.abiMethod fun t => do pure (.int .u8 (← Rtype.kind t))) #[hd 26]).run Tryd.prog w = .ok (.int .u8 2) w := by kernel_rfl
theorem kindF (w : World) : ((ReflectliteType.abiMethod fun t => do pure (.int .u8 (← Rtype.kind t))) #[hd 63]).run Tryd.prog w = .ok (.int .u8 22) w := by kernel_rfl
theorem elemNP (w : World) : ((ReflectliteType.method ReflectliteType.elem) #[.agg #[hd 55]]).run Tryd.prog w = .ok (rt 26) w := by kernel_rfl
theorem elemOfNP (w : World) : (Rtype.elem? 55).run Tryd.prog w = .ok (some 26) w := by kernel_rfl
theorem elemFF (w : World) : ((ReflectliteType.method ReflectliteType.elem) #[.agg #[hd 82]]).run Tryd.prog w = .ok (rt 63) w := by kernel_rfl
theorem elemOfFF (w : World) : (Rtype.elem? 82).run Tryd.prog w = .ok (some 63) w := by kernel_rfl
theorem implementsN (w : World) : ((ReflectliteType.relation "Implements" ReflectliteType.implements_) #[.agg #[hd 26], errT]).run Tryd.prog w = .ok (.bool true) w := by kernel_rfl
theorem typeOfN (v : Value) (w : World) : (ReflectliteType.typeOf #[.iface 26 v]).run Tryd.prog w = .ok (rt 26) w := by kernel_rfl
theorem mkN (p : Addr) (w : World) : (ReflectliteValue.mk 26 p ReflectliteValue.flagAddr).run Tryd.prog w = .ok (.agg #[hd 26, .pointer (some p), .int .u64 386]) w := by kernel_rfl
theorem partsAN (a : Addr) (w : World) : (ReflectliteValue.parts (.agg #[hd 26, .pointer (some a), .int .u64 386])).run Tryd.prog w = .ok (some (26, a, 386)) w := by kernel_rfl
theorem partsBN (a : Addr) (w : World) : (ReflectliteValue.parts (.agg #[hd 26, .pointer (some a), .int .u64 130])).run Tryd.prog w = .ok (some (26, a, 130)) w := by kernel_rfl
theorem directN (w : World) : (Rtype.directlyAssignable 26 26).run Tryd.prog w = .ok true w := by kernel_rfl
theorem implementsF (w : World) : ((ReflectliteType.relation "Implements" ReflectliteType.implements_) #[.agg #[hd 63], errT]).run Tryd.prog w = .ok (.bool true) w := by kernel_rfl
theorem typeOfF (v : Value) (w : World) : (ReflectliteType.typeOf #[.iface 63 v]).run Tryd.prog w = .ok (rt 63) w := by kernel_rfl
theorem mkF (p : Addr) (w : World) : (ReflectliteValue.mk 63 p ReflectliteValue.flagAddr).run Tryd.prog w = .ok (.agg #[hd 63, .pointer (some p), .int .u64 406]) w := by kernel_rfl
theorem partsAF (a : Addr) (w : World) : (ReflectliteValue.parts (.agg #[hd 63, .pointer (some a), .int .u64 406])).run Tryd.prog w = .ok (some (63, a, 406)) w := by kernel_rfl
theorem partsBF (a : Addr) (w : World) : (ReflectliteValue.parts (.agg #[hd 63, .pointer (some a), .int .u64 150])).run Tryd.prog w = .ok (some (63, a, 150)) w := by kernel_rfl
theorem directF (w : World) : (Rtype.directlyAssignable 63 63).run Tryd.prog w = .ok true w := by kernel_rfl
theorem assignFN (w : World) : ((ReflectliteType.relation "AssignableTo" ReflectliteType.assignableTo) #[.agg #[hd 63], rt 26]).run Tryd.prog w = .ok (.bool false) w := by kernel_rfl
theorem assignNN (w : World) : ((ReflectliteType.relation "AssignableTo" ReflectliteType.assignableTo) #[.agg #[hd 26], rt 26]).run Tryd.prog w = .ok (.bool true) w := by kernel_rfl
theorem assignFF (w : World) : ((ReflectliteType.relation "AssignableTo" ReflectliteType.assignableTo) #[.agg #[hd 63], rt 63]).run Tryd.prog w = .ok (.bool true) w := by kernel_rfl
theorem assignNF (w : World) : ((ReflectliteType.relation "AssignableTo" ReflectliteType.assignableTo) #[.agg #[hd 26], rt 63]).run Tryd.prog w = .ok (.bool false) w := by kernel_rfl
theorem valueOfF (e : Addr) (w : World) : (ReflectliteValue.unpack (.iface 63 (.pointer (some e)))).run Tryd.prog w = .ok (.agg #[hd 63, .pointer (some ⟨w.heap.size, 0, none⟩), .int .u64 150]) (w.alloc (.cells #[.pointer (some e)] 63)) := by kernel_rfl
theorem valueOfN (c : Int) (w : World) : (ReflectliteValue.unpack (.iface 26 (.int .i64 c))).run Tryd.prog w = .ok (.agg #[hd 26, .pointer (some ⟨w.heap.size, 0, none⟩), .int .u64 130]) (w.alloc (.cells #[.int .i64 c] 26)) := by kernel_rfl
theorem elemVNP (a p : Addr) (W : World) (ha : W.cell? a = some (.pointer (some p))) : ((ReflectliteValue.method (ReflectliteValue.valueError "reflectlite.Value.Elem" 0) ReflectliteValue.elem) #[.agg #[hd 55, .pointer (some a), .int .u64 150]]).run Tryd.prog W = .ok (.agg #[hd 26, .pointer (some p), .int .u64 386]) W := by
  rw [rlm]
  simp only [Sem.run_bind, partsNP, Result.andThen]
  simp [ReflectliteValue.elem, loadVar, isAgg, underlying, Tryd.underlying55, ha, Result.andThen, elemOfNP, mkN]
theorem elemVFF (a p : Addr) (W : World) (ha : W.cell? a = some (.pointer (some p))) : ((ReflectliteValue.method (ReflectliteValue.valueError "reflectlite.Value.Elem" 0) ReflectliteValue.elem) #[.agg #[hd 82, .pointer (some a), .int .u64 150]]).run Tryd.prog W = .ok (.agg #[hd 63, .pointer (some p), .int .u64 406]) W := by
  rw [rlm]
  simp only [Sem.run_bind, partsFF, Result.andThen]
  simp [ReflectliteValue.elem, loadVar, isAgg, underlying, Tryd.underlying82, ha, Result.andThen, elemOfFF, mkF]
theorem rls (v x : Value) : ReflectliteValue.set #[v, x] = (do
    let (some (dst, a, fl), some (src, b, _)) := (← ReflectliteValue.parts v, ← ReflectliteValue.parts x)
      | unsupported (.noEntry "extern/(internal/reflectlite.Value).Set.zeroValue")
    if fl / ReflectliteValue.flagAddr % 2 == 0 then unsupported (.noEntry "extern/(internal/reflectlite.Value).Set.unaddressable")
    let val ← loadVar src b
    if ← Rtype.directlyAssignable dst src then storeVar dst a val
    else if ← Rtype.implements dst src then
      if (← Rtype.kind src) == 20 then
        match val with
        | .nilIface => unsupported (.noEntry "extern/reflectlite: a nil value of one interface type handed on as a value of another")
        | _ => storeVar dst a val
      else storeVar dst a (.iface src val)
    else panicString ("reflectlite.Set: value of type " ++ (← Rtype.spelt src) ++ " is not assignable to type " ++ (← Rtype.spelt dst))
    pure (.tuple #[])) := rfl
theorem sizeN (w : World) : (sizeOf 26).run Tryd.prog w = .ok 1 w := by kernel_rfl
theorem setN (ta b : Addr) (c : Int) (old : Value) (W : World) (hb : W.cell? b = some (.int .i64 c)) (ht : W.cell? ta = some old) (hf : W.frozen? ta = false) :
    (ReflectliteValue.set #[.agg #[hd 26, .pointer (some ta), .int .u64 386], .agg #[hd 26, .pointer (some b), .int .u64 130]]).run Tryd.prog W = .ok (.tuple #[]) (W.setCell ta (.int .i64 c)) := by
  rw [rls]
  simp only [Sem.run_bind, partsAN, partsBN, Result.andThen]
  simp [ReflectliteValue.flagAddr, loadVar, isAgg, underlying, Tryd.underlying26, hb, Result.andThen, directN, storeVar, Value.cells, storeCells, Addr.add]
  rw [run_store Tryd.prog W ta _ _ (by rfl)]
  simp [ht, hf]
theorem sizeF (w : World) : (sizeOf 63).run Tryd.prog w = .ok 1 w := by kernel_rfl
theorem setF (ta b : Addr) (c : Option Addr) (old : Value) (W : World) (hb : W.cell? b = some (.pointer c)) (ht : W.cell? ta = some old) (hf : W.frozen? ta = false) :
    (ReflectliteValue.set #[.agg #[hd 63, .pointer (some ta), .int .u64 406], .agg #[hd 63, .pointer (some b), .int .u64 150]]).run Tryd.prog W = .ok (.tuple #[]) (W.setCell ta (.pointer c)) := by
  rw [rls]
  simp only [Sem.run_bind, partsAF, partsBF, Result.andThen]
  simp [ReflectliteValue.flagAddr, loadVar, isAgg, underlying, Tryd.underlying63, hb, Result.andThen, directF, storeVar, Value.cells, storeCells, Addr.add]
  rw [run_store Tryd.prog W ta _ _ (by rfl)]
  simp [ht, hf]
theorem assertFIA (v : Value) (w : World) : (Instr.typeAssert (.iface 63 v) 29 89 true).run Tryd.prog w = .ok (.tuple #[.nilIface, .bool false]) w := run_typeAssert_lacksB Tryd.underlying89 (by kernel_rfl) (by kernel_rfl) v 29 w
theorem assertFIU (v : Value) (w : World) : (Instr.typeAssert (.iface 63 v) 29 92 true).run Tryd.prog w = .ok (.tuple #[.iface 63 v, .bool true]) w := run_typeAssert_hasB Tryd.underlying92 (by kernel_rfl) v 29 w
theorem assertNIA (v : Value) (w : World) : (Instr.typeAssert (.iface 26 v) 29 89 true).run Tryd.prog w = .ok (.tuple #[.nilIface, .bool false]) w := run_typeAssert_lacksB Tryd.underlying89 (by kernel_rfl) (by kernel_rfl) v 29 w
theorem assertNIU (v : Value) (w : World) : (Instr.typeAssert (.iface 26 v) 29 92 true).run Tryd.prog w = .ok (.tuple #[.nilIface, .bool false]) w := run_typeAssert_lacksB Tryd.underlying92 (by kernel_rfl) (by kernel_rfl) v 29 w
theorem assertNIL (v : Value) (w : World) : (Instr.typeAssert (.iface 26 v) 29 94 true).run Tryd.prog w = .ok (.tuple #[.nilIface, .bool false]) w := run_typeAssert_lacksB Tryd.underlying94 (by kernel_rfl) (by kernel_rfl) v 29 w
end Go.Proofs.YtacgheafbkfciaaDoor
/- Contracts of functions of the given program, and plain laws on what they compute: parts of the proofs of laws. -/

namespace Go.Proofs.YtacgheafbkfciaaDoor
open Go Go.GL Go.Extern

/-- the cells of a fault -/
def faultCells (op : ByteArray) (at_ c : Int) : List Value := [.string op, .int .i64 at_, .iface 26 (.int .i64 c)]
/-- the type of errors lies where errors.As looks for it -/
def ErrT : Assn := cellAt 0 0 errT
theorem up_ErrT : Up ErrT := up_cellAt _ _ _
theorem cell_of_blk0 {L : List Assn} {w : World} {b : Nat} {c : List Value} {T : TypeId} {v : Value} (s : Sat L w) (m : blk b c T ∈ L) (h : c[0]? = some v) : w.cell? ⟨b, 0, none⟩ = some v :=
  cell_of_cellAt ((Ent.blk m h) _ s)
theorem cell_of_cells0 {L : List Assn} {w : World} {b off i : Nat} {l : List Value} {v : Value} (s : Sat L w) (m : Ent L (cellsAt b off l)) (h : l[i]? = some v) : w.cell? ⟨b, off + i, none⟩ = some v :=
  cell_of_cellAt (cellsAt_one (m _ s) h)
set_option maxRecDepth 10000 in
theorem as_nil (v : Value) : RO G 20 [.nilIface, v] (fun _ => True) (.bool false) := by
  refine RO.enter Tryd.func20 rfl (by decide) rfl Tryd.ntmps20 rfl (fun A _ hA => ?_) (fun _ _ _ h => h)
  repeat (first | refine GO ?_ | refine NW fun _ => ?_)
  exact ret1 rfl ⟨rfl, MM⟩
set_option maxRecDepth 10000 in
theorem unwrap_ro (b : Nat) (op : ByteArray) (at_ c : Int) : RO G 78 [.pointer (some ⟨b, 0, none⟩)] (cellsAt b 0 (faultCells op at_ c)) (.iface 26 (.int .i64 c)) := by
  refine RO.enter Tryd.func78 rfl (by decide) rfl Tryd.ntmps78 rfl (fun A hu hA => ?_) (up_cellsAt _ _ _)
  repeat (first | refine GO ?_ | refine NW fun _ => ?_)
  refine WL.step rfl (OP.load1 (v := .iface 26 (.int .i64 c)) rfl rfl rfl rfl (Ent.mem (A := A) MM hu (fun h x => cellsAt_one (i := 2) (hA h x) rfl)) rfl rfl ?_)
  repeat (first | refine GO ?_ | refine NW fun _ => ?_)
  exact ret1 rfl ⟨rfl, MM⟩
set_option maxHeartbeats 4000000 in
set_option maxRecDepth 10000 in
theorem asF_hit (b p q : Nat) (old : Value) :
    Triple G 31 [.iface 63 (.pointer (some ⟨b, 0, none⟩)), .iface 82 (.pointer (some ⟨p, 0, none⟩)), .agg #[hd 82, .pointer (some ⟨q, 0, none⟩), .int .u64 150], rt 63] [blk p [old] 63, blk q [.pointer (some ⟨p, 0, none⟩)] 82] (fun v M => v = .bool true ∧ M = [blk p [.pointer (some ⟨b, 0, none⟩)] 63]) := by
  refine Triple.enter Tryd.func31 rfl (by decide) rfl Tryd.ntmps31 rfl (fun X => ?_)
  repeat (first | refine GO ?_ | refine NW fun _ => ?_)
  rename_i bx
  refine WC.loop (σ := Unit) (fun _ => True) (fun _ => [(0, .val (.iface 63 (.pointer (some ⟨b, 0, none⟩)))), (1, .val (.iface 82 (.pointer (some ⟨p, 0, none⟩)))), (3, .val (rt 63)), (6, .val (.pointer (some ⟨bx, 0, none⟩))), (8, .val (.bool false))])
    (fun _ => [blk bx [hd 82, .pointer (some ⟨q, 0, none⟩), .int .u64 150] 72, blk p [old] 63, blk q [.pointer (some ⟨p, 0, none⟩)] 82, X]) (fun _ => 0) () trivial ⟨rfl, rfl, rfl, rfl, rfl, trivial⟩ II ?_
  rintro _ _
  repeat (first | refine GD ?_ | refine NW fun _ => ?_)
  refine WL.step rfl (OP.extP (.call xTypeOf rfl rfl) (fun w _ => typeOfF _ w) rfl rfl ?_)
  repeat (first | refine GD ?_ | refine NW fun _ => ?_)
  refine WL.step rfl (OP.extP (.inv xAssignableTo rfl rfl rfl (fun w => mAssignableTo _ w)) (fun w _ => assignFF w) rfl rfl ?_)
  repeat (first | refine GD ?_ | refine NW fun _ => ?_)
  refine WL.step rfl (OP.extP (.call xElemV rfl rfl) (fun w s => elemVFF _ ⟨p, 0, none⟩ w (cell_of_blk0 (b := q) s MM rfl)) rfl rfl ?_)
  repeat (first | refine GD ?_ | refine NW fun _ => ?_)
  refine WL.step rfl (OP.extNew (mk := (fun n => .agg #[hd 63, .pointer (some ⟨n, 0, none⟩), .int .u64 150])) (.call xValueOf rfl rfl) (fun w _ => valueOfF _ w) rfl rfl (fun q2 => ?_))
  repeat (first | refine GD ?_ | refine NW fun _ => ?_)
  refine WL.step rfl (OP.extSet (.call xSet rfl rfl) (fun w s => setF ⟨p, 0, none⟩ ⟨q2, 0, none⟩ (some ⟨b, 0, none⟩) old w (cell_of_blk0 (b := q2) s MM rfl) (cell_of_blk0 (b := p) s MM rfl) (Sat.notFrozen (b := p) (c := [old]) (T := 63) s MM (Nat.zero_lt_succ _))) (by repeat (first | exact Upd.here _ _ _ _ _ | apply Upd.there)) rfl rfl ?_)
  repeat (first | refine GD ?_ | refine NW fun _ => ?_)
  exact ret1 rfl ⟨_, ⟨rfl, rfl⟩, II⟩
set_option maxHeartbeats 4000000 in
set_option maxRecDepth 10000 in
theorem asF_miss (p q : Nat) (c : Int) :
    Triple G 31 [.iface 26 (.int .i64 c), .iface 82 (.pointer (some ⟨p, 0, none⟩)), .agg #[hd 82, .pointer (some ⟨q, 0, none⟩), .int .u64 150], rt 63] [] (fun v M => v = .bool false ∧ M = []) := by
  refine Triple.enter Tryd.func31 rfl (by decide) rfl Tryd.ntmps31 rfl (fun X => ?_)
  repeat (first | refine GO ?_ | refine NW fun _ => ?_)
  rename_i bx
  refine WC.loop (σ := Unit) (fun _ => True) (fun _ => [(0, .val (.iface 26 (.int .i64 c))), (1, .val (.iface 82 (.pointer (some ⟨p, 0, none⟩)))), (3, .val (rt 63)), (6, .val (.pointer (some ⟨bx, 0, none⟩))), (8, .val (.bool false))])
    (fun _ => [X]) (fun _ => 0) () trivial ⟨rfl, rfl, rfl, rfl, rfl, trivial⟩ II ?_
  rintro _ _
  repeat (first | refine GD ?_ | refine NW fun _ => ?_)
  refine WL.step rfl (OP.extP (.call xTypeOf rfl rfl) (fun w _ => typeOfN _ w) rfl rfl ?_)
  repeat (first | refine GD ?_ | refine NW fun _ => ?_)
  refine WL.step rfl (OP.extP (.inv xAssignableTo rfl rfl rfl (fun w => mAssignableTo _ w)) (fun w _ => assignNF w) rfl rfl ?_)
  repeat (first | refine GD ?_ | refine NW fun _ => ?_)
  refine WL.step rfl (OP.assert rfl rfl (fun w => assertNIA _ w) rfl rfl ?_)
  repeat (first | refine GD ?_ | refine NW fun _ => ?_)
  refine WL.step rfl (OP.assert rfl rfl (fun w => assertNIU _ w) rfl rfl ?_)
  repeat (first | refine GD ?_ | refine NW fun _ => ?_)
  refine WL.step rfl (OP.assert rfl rfl (fun w => assertNIL _ w) rfl rfl ?_)
  repeat (first | refine GD ?_ | refine NW fun _ => ?_)
  exact ret1 rfl ⟨_, ⟨rfl, rfl⟩, II⟩
set_option maxHeartbeats 4000000 in
set_option maxRecDepth 10000 in
theorem asN_fault (b p q : Nat) (op : ByteArray) (at_ c : Int) (old : Value) (A : Assn) (hu : Up A) (hA : ∀ h, A h → cellsAt b 0 (faultCells op at_ c) h) :
    Triple G 31 [.iface 63 (.pointer (some ⟨b, 0, none⟩)), .iface 55 (.pointer (some ⟨p, 0, none⟩)), .agg #[hd 55, .pointer (some ⟨q, 0, none⟩), .int .u64 150], rt 26] [blk p [old] 26, blk q [.pointer (some ⟨p, 0, none⟩)] 55, A] (fun v M => v = .bool true ∧ M = [blk p [.int .i64 c] 26, A]) := by
  refine Triple.enter Tryd.func31 rfl (by decide) rfl Tryd.ntmps31 rfl (fun X => ?_)
  repeat (first | refine GO ?_ | refine NW fun _ => ?_)
  rename_i bx
  refine WC.loop (σ := Bool) (fun _ => True) (fun s => match s with | true => [(0, .val (.iface 63 (.pointer (some ⟨b, 0, none⟩)))), (1, .val (.iface 55 (.pointer (some ⟨p, 0, none⟩)))), (3, .val (rt 26)), (6, .val (.pointer (some ⟨bx, 0, none⟩))), (8, .val (.bool false))] | false => [(0, .val (.iface 26 (.int .i64 c))), (1, .val (.iface 55 (.pointer (some ⟨p, 0, none⟩)))), (3, .val (rt 26)), (6, .val (.pointer (some ⟨bx, 0, none⟩))), (8, .val (.bool false))])
    (fun _ => [blk bx [hd 55, .pointer (some ⟨q, 0, none⟩), .int .u64 150] 72, blk p [old] 26, blk q [.pointer (some ⟨p, 0, none⟩)] 55, A, X]) (fun s => match s with | true => 1 | false => 0) true trivial ⟨rfl, rfl, rfl, rfl, rfl, trivial⟩ II ?_
  rintro s _
  cases s
  · repeat (first | refine GD ?_ | refine NW fun _ => ?_)
    refine WL.step rfl (OP.extP (.call xTypeOf rfl rfl) (fun w _ => typeOfN _ w) rfl rfl ?_)
    repeat (first | refine GD ?_ | refine NW fun _ => ?_)
    refine WL.step rfl (OP.extP (.inv xAssignableTo rfl rfl rfl (fun w => mAssignableTo _ w)) (fun w _ => assignNN w) rfl rfl ?_)
    repeat (first | refine GD ?_ | refine NW fun _ => ?_)
    refine WL.step rfl (OP.extP (.call xElemV rfl rfl) (fun w s => elemVNP _ ⟨p, 0, none⟩ w (cell_of_blk0 (b := q) s MM rfl)) rfl rfl ?_)
    repeat (first | refine GD ?_ | refine NW fun _ => ?_)
    refine WL.step rfl (OP.extNew (mk := (fun n => .agg #[hd 26, .pointer (some ⟨n, 0, none⟩), .int .u64 130])) (.call xValueOf rfl rfl) (fun w _ => valueOfN _ w) rfl rfl (fun q2 => ?_))
    repeat (first | refine GD ?_ | refine NW fun _ => ?_)
    refine WL.step rfl (OP.extSet (.call xSet rfl rfl) (fun w s => setN ⟨p, 0, none⟩ ⟨q2, 0, none⟩ c old w (cell_of_blk0 (b := q2) s MM rfl) (cell_of_blk0 (b := p) s MM rfl) (Sat.notFrozen (b := p) (c := [old]) (T := 26) s MM (Nat.zero_lt_succ _))) (by repeat (first | exact Upd.here _ _ _ _ _ | apply Upd.there)) rfl rfl ?_)
    repeat (first | refine GD ?_ | refine NW fun _ => ?_)
    exact ret1 rfl ⟨_, ⟨rfl, rfl⟩, II⟩
  · repeat (first | refine GD ?_ | refine NW fun _ => ?_)
    refine WL.step rfl (OP.extP (.call xTypeOf rfl rfl) (fun w _ => typeOfF _ w) rfl rfl ?_)
    repeat (first | refine GD ?_ | refine NW fun _ => ?_)
    refine WL.step rfl (OP.extP (.inv xAssignableTo rfl rfl rfl (fun w => mAssignableTo _ w)) (fun w _ => assignFN w) rfl rfl ?_)
    repeat (first | refine GD ?_ | refine NW fun _ => ?_)
    refine WL.step rfl (OP.assert rfl rfl (fun w => assertFIA _ w) rfl rfl ?_)
    repeat (first | refine GD ?_ | refine NW fun _ => ?_)
    refine WL.step rfl (OP.assert rfl rfl (fun w => assertFIU _ w) rfl rfl ?_)
    repeat (first | refine GD ?_ | refine NW fun _ => ?_)
    refine WL.step rfl (OP.invRO rfl rfl (fun w => mUnwrap _ w) (unwrap_ro b op at_ c) (Ent.mem (A := A) MM hu hA) rfl rfl ?_)
    repeat (first | refine GD ?_ | refine NW fun _ => ?_)
    exact ⟨false, trivial, by decide, ⟨rfl, rfl, rfl, rfl, rfl, trivial⟩, II⟩
set_option maxHeartbeats 4000000 in
set_option maxRecDepth 10000 in
theorem as_faults (b p : Nat) (old : Value) (A : Assn) (hu : Up A) (hA : ∀ h, A h → ErrT h) :
    Triple G 20 [.iface 63 (.pointer (some ⟨b, 0, none⟩)), .iface 82 (.pointer (some ⟨p, 0, none⟩))] ([blk p [old] 63, A]) (fun v M => v = .bool true ∧ M = [blk p [.pointer (some ⟨b, 0, none⟩)] 63, A]) := by
  refine Triple.enter Tryd.func20 rfl (by decide) rfl Tryd.ntmps20 rfl (fun F => ?_)
  repeat (first | refine GO ?_ | refine NW fun _ => ?_)
  refine WL.step rfl (OP.extNew (mk := fun n => .agg #[hd 82, .pointer (some ⟨n, 0, none⟩), .int .u64 150]) (.call xValueOf rfl rfl) (fun w _ => valueOfFF _ w) rfl rfl (fun q => ?_))
  repeat (first | refine GO ?_ | refine NW fun _ => ?_)
  refine WL.step rfl (OP.extP (.call xType rfl rfl) (fun w _ => typeFF _ w) rfl rfl ?_)
  repeat (first | refine GO ?_ | refine NW fun _ => ?_)
  refine WL.step rfl (OP.extP (.inv xKind rfl rfl rfl (fun w => mKind _ w)) (fun w _ => kindFF w) rfl rfl ?_)
  repeat (first | refine GO ?_ | refine NW fun _ => ?_)
  refine WL.guardT rfl rfl rfl rfl (OP.extP (.call xIsNil rfl rfl) (fun w s => isNilFF _ ⟨p, 0, none⟩ w (cell_of_blk0 (b := q) s MM rfl)) rfl rfl ?_)
  repeat (first | refine GO ?_ | refine NW fun _ => ?_)
  refine WL.step rfl (OP.extP (.inv xElem rfl rfl rfl (fun w => mElem _ w)) (fun w _ => elemFF w) rfl rfl ?_)
  repeat (first | refine GO ?_ | refine NW fun _ => ?_)
  refine WL.step rfl (OP.extP (.inv xKind rfl rfl rfl (fun w => mKind _ w)) (fun w _ => kindF w) rfl rfl ?_)
  repeat (first | refine GO ?_ | refine NW fun _ => ?_)
  refine WL.guardT rfl rfl rfl rfl (OP.load1 (v := errT) rfl rfl rfl rfl (Ent.mem (A := A) MM hu hA) rfl rfl ?_)
  repeat (first | refine GO ?_ | refine NW fun _ => ?_)
  refine WL.guardT rfl rfl rfl rfl (OP.extP (.inv xImplements rfl rfl rfl (fun w => mImplements _ w)) (fun w _ => implementsF w) rfl rfl ?_)
  repeat (first | refine GO ?_ | refine NW fun _ => ?_)
  refine WL.step rfl (OP.call (pre := [blk p [old] 63, blk q [.pointer (some ⟨p, 0, none⟩)] 82]) rfl rfl (asF_hit b p q old) PS rfl rfl ?_)
  rintro _ _ ⟨rfl, rfl⟩
  repeat (first | refine GO ?_ | refine NW fun _ => ?_)
  exact ret1 rfl ⟨_, ⟨rfl, rfl⟩, II⟩
set_option maxHeartbeats 4000000 in
set_option maxRecDepth 10000 in
theorem as_faultsN (p : Nat) (c : Int) (old : Value) (A : Assn) (hu : Up A) (hA : ∀ h, A h → ErrT h) :
    Triple G 20 [.iface 26 (.int .i64 c), .iface 82 (.pointer (some ⟨p, 0, none⟩))] ([blk p [old] 63, A]) (fun v M => v = .bool false ∧ M = [blk p [old] 63, A]) := by
  refine Triple.enter Tryd.func20 rfl (by decide) rfl Tryd.ntmps20 rfl (fun F => ?_)
  repeat (first | refine GO ?_ | refine NW fun _ => ?_)
  refine WL.step rfl (OP.extNew (mk := fun n => .agg #[hd 82, .pointer (some ⟨n, 0, none⟩), .int .u64 150]) (.call xValueOf rfl rfl) (fun w _ => valueOfFF _ w) rfl rfl (fun q => ?_))
  repeat (first | refine GO ?_ | refine NW fun _ => ?_)
  refine WL.step rfl (OP.extP (.call xType rfl rfl) (fun w _ => typeFF _ w) rfl rfl ?_)
  repeat (first | refine GO ?_ | refine NW fun _ => ?_)
  refine WL.step rfl (OP.extP (.inv xKind rfl rfl rfl (fun w => mKind _ w)) (fun w _ => kindFF w) rfl rfl ?_)
  repeat (first | refine GO ?_ | refine NW fun _ => ?_)
  refine WL.guardT rfl rfl rfl rfl (OP.extP (.call xIsNil rfl rfl) (fun w s => isNilFF _ ⟨p, 0, none⟩ w (cell_of_blk0 (b := q) s MM rfl)) rfl rfl ?_)
  repeat (first | refine GO ?_ | refine NW fun _ => ?_)
  refine WL.step rfl (OP.extP (.inv xElem rfl rfl rfl (fun w => mElem _ w)) (fun w _ => elemFF w) rfl rfl ?_)
  repeat (first | refine GO ?_ | refine NW fun _ => ?_)
  refine WL.step rfl (OP.extP (.inv xKind rfl rfl rfl (fun w => mKind _ w)) (fun w _ => kindF w) rfl rfl ?_)
  repeat (first | refine GO ?_ | refine NW fun _ => ?_)
  refine WL.guardT rfl rfl rfl rfl (OP.load1 (v := errT) rfl rfl rfl rfl (Ent.mem (A := A) MM hu hA) rfl rfl ?_)
  repeat (first | refine GO ?_ | refine NW fun _ => ?_)
  refine WL.guardT rfl rfl rfl rfl (OP.extP (.inv xImplements rfl rfl rfl (fun w => mImplements _ w)) (fun w _ => implementsF w) rfl rfl ?_)
  repeat (first | refine GO ?_ | refine NW fun _ => ?_)
  refine WL.step rfl (OP.call (pre := []) (F := _) rfl rfl (asF_miss p q c) (Imp.refl _) rfl rfl ?_)
  rintro _ _ ⟨rfl, rfl⟩
  repeat (first | refine GO ?_ | refine NW fun _ => ?_)
  exact ret1 rfl ⟨_, ⟨rfl, rfl⟩, II⟩
set_option maxHeartbeats 4000000 in
set_option maxRecDepth 10000 in
theorem as_code (b p : Nat) (op : ByteArray) (at_ c : Int) (old : Value) (A : Assn) (hu : Up A) (hA : ∀ h, A h → ErrT h) (hA2 : ∀ h, A h → cellsAt b 0 (faultCells op at_ c) h) :
    Triple G 20 [.iface 63 (.pointer (some ⟨b, 0, none⟩)), .iface 55 (.pointer (some ⟨p, 0, none⟩))] ([blk p [old] 26, A]) (fun v M => v = .bool true ∧ M = [blk p [.int .i64 c] 26, A]) := by
  refine Triple.enter Tryd.func20 rfl (by decide) rfl Tryd.ntmps20 rfl (fun F => ?_)
  repeat (first | refine GO ?_ | refine NW fun _ => ?_)
  refine WL.step rfl (OP.extNew (mk := fun n => .agg #[hd 55, .pointer (some ⟨n, 0, none⟩), .int .u64 150]) (.call xValueOf rfl rfl) (fun w _ => valueOfNP _ w) rfl rfl (fun q => ?_))
  repeat (first | refine GO ?_ | refine NW fun _ => ?_)
  refine WL.step rfl (OP.extP (.call xType rfl rfl) (fun w _ => typeNP _ w) rfl rfl ?_)
  repeat (first | refine GO ?_ | refine NW fun _ => ?_)
  refine WL.step rfl (OP.extP (.inv xKind rfl rfl rfl (fun w => mKind _ w)) (fun w _ => kindNP w) rfl rfl ?_)
  repeat (first | refine GO ?_ | refine NW fun _ => ?_)
  refine WL.guardT rfl rfl rfl rfl (OP.extP (.call xIsNil rfl rfl) (fun w s => isNilNP _ ⟨p, 0, none⟩ w (cell_of_blk0 (b := q) s MM rfl)) rfl rfl ?_)
  repeat (first | refine GO ?_ | refine NW fun _ => ?_)
  refine WL.step rfl (OP.extP (.inv xElem rfl rfl rfl (fun w => mElem _ w)) (fun w _ => elemNP w) rfl rfl ?_)
  repeat (first | refine GO ?_ | refine NW fun _ => ?_)
  refine WL.step rfl (OP.extP (.inv xKind rfl rfl rfl (fun w => mKind _ w)) (fun w _ => kindN w) rfl rfl ?_)
  repeat (first | refine GO ?_ | refine NW fun _ => ?_)
  refine WL.guardT rfl rfl rfl rfl (OP.load1 (v := errT) rfl rfl rfl rfl (Ent.mem (A := A) MM hu hA) rfl rfl ?_)
  repeat (first | refine GO ?_ | refine NW fun _ => ?_)
  refine WL.guardT rfl rfl rfl rfl (OP.extP (.inv xImplements rfl rfl rfl (fun w => mImplements _ w)) (fun w _ => implementsN w) rfl rfl ?_)
  repeat (first | refine GO ?_ | refine NW fun _ => ?_)
  refine WL.step rfl (OP.call (pre := [blk p [old] 26, blk q [.pointer (some ⟨p, 0, none⟩)] 55, A]) rfl rfl (asN_fault b p q op at_ c old A hu hA2) PS rfl rfl ?_)
  rintro _ _ ⟨rfl, rfl⟩
  repeat (first | refine GO ?_ | refine NW fun _ => ?_)
  exact ret1 rfl ⟨_, ⟨rfl, rfl⟩, II⟩
end Go.Proofs.YtacgheafbkfciaaDoor
/- Contracts of functions of the given program, and plain laws on what they compute: parts of the proofs of laws. -/

namespace Go.Proofs.YtacgheafbkfciaaDoor
open Go Go.GL

def FaultR (b : Nat) (op : ByteArray) (at_ c : Int) : Assn := fun h => ErrT h ∧ cellsAt b 0 (faultCells op at_ c) h
theorem up_FaultR (b : Nat) (op : ByteArray) (at_ c : Int) : Up (FaultR b op at_ c) := up_and up_ErrT (up_cellsAt _ _ _)
set_option maxRecDepth 10000 in
theorem code_nil : RO G 7 [.nilIface] (fun _ => True) (.int .i64 0) := by
  refine RO.enter Tryd.func7 rfl (by decide) rfl Tryd.ntmps7 rfl (fun A hu hA => ?_) (fun _ _ _ h => h)
  repeat (first | refine GO ?_ | refine NW fun _ => ?_)
  refine WL.step rfl (OP.callRO rfl rfl (as_nil _) (fun _ _ => trivial) rfl rfl ?_)
  repeat (first | refine GO ?_ | refine NW fun _ => ?_)
  exact ret1 rfl ⟨rfl, MM⟩
set_option maxRecDepth 10000 in
theorem code_fault (b : Nat) (op : ByteArray) (at_ c : Int) : RO G 7 [.iface 63 (.pointer (some ⟨b, 0, none⟩))] (FaultR b op at_ c) (.int .i64 c) := by
  refine RO.enter Tryd.func7 rfl (by decide) rfl Tryd.ntmps7 rfl (fun A hu hA => ?_) (up_FaultR _ _ _ _)
  repeat (first | refine GO ?_ | refine NW fun _ => ?_)
  rename_i p
  refine WL.step rfl (OP.call (pre := [blk p [.int .i64 0] 26, A]) rfl rfl (as_code b p op at_ c (.int .i64 0) A hu (fun h x => (hA h x).1) (fun h x => (hA h x).2)) PS rfl rfl ?_)
  rintro _ _ ⟨rfl, rfl⟩
  repeat (first | refine GO ?_ | refine NW fun _ => ?_)
  exact ret1 rfl ⟨rfl, MM⟩
def Ptrs (l : List Value) (v : Value) (E : List Assn) : Prop := ∃ a cap, v = .slice a l.length cap ∧ E = [ownS a l.length cap 63 1 l]
set_option maxRecDepth 10000 in
theorem faults_nil : RT G 24 [.nilIface] (fun _ => True) (fun v E => v = .slice none 0 0 ∧ E = []) := by
  refine RT.enter Tryd.func24 rfl (by decide) rfl Tryd.ntmps24 rfl (fun A hu hA => ?_)
  repeat (first | refine GO ?_ | refine NW fun _ => ?_)
  rename_i p
  refine WC.loop (σ := Unit) (fun _ => True) (fun _ => [(0, .val .nilIface), (3, .val (.slice none 0 0)), (4, .val (.pointer (some ⟨p, 0, none⟩)))]) (fun _ => [A]) (fun _ => 0) () trivial ⟨rfl, rfl, rfl, trivial⟩ II ?_
  rintro _ _
  repeat (first | refine GO ?_ | refine NW fun _ => ?_)
  refine WL.step rfl (OP.callRO rfl rfl (as_nil _) (fun _ _ => trivial) rfl rfl ?_)
  repeat (first | refine GO ?_ | refine NW fun _ => ?_)
  exact ret1 rfl ⟨[], ⟨rfl, rfl⟩, II⟩
set_option maxHeartbeats 1000000 in
set_option maxRecDepth 10000 in
theorem faults_one (b : Nat) (op : ByteArray) (at_ c : Int) : RT G 24 [.iface 63 (.pointer (some ⟨b, 0, none⟩))] (FaultR b op at_ c) (Ptrs [.pointer (some ⟨b, 0, none⟩)]) := by
  refine RT.enter Tryd.func24 rfl (by decide) rfl Tryd.ntmps24 rfl (fun A hu hA => ?_)
  repeat (first | refine GO ?_ | refine NW fun _ => ?_)
  rename_i p
  refine WC.imp (Imp.nilS 63 1) ?_
  refine WC.loop (σ := Bool × Option Addr × Nat) (fun s => s.1 = true → s.2.1 = none ∧ s.2.2 = 0) (fun s => match s.1 with
      | true => [(0, .val (.iface 63 (.pointer (some ⟨b, 0, none⟩)))), (3, .val (.slice none 0 0)), (4, .val (.pointer (some ⟨p, 0, none⟩)))]
      | false => [(0, .val (.iface 26 (.int .i64 c))), (3, .val (.slice s.2.1 1 s.2.2)), (4, .val (.pointer (some ⟨p, 0, none⟩)))])
    (fun s => match s.1 with
      | true => [blk p [.pointer none] 63, ownS none 0 0 63 1 [], A]
      | false => [blk p [.pointer (some ⟨b, 0, none⟩)] 63, ownS s.2.1 1 s.2.2 63 1 [.pointer (some ⟨b, 0, none⟩)], A])
    (fun s => match s.1 with | true => 1 | false => 0) (true, none, 0) (fun _ => ⟨rfl, rfl⟩) ⟨rfl, rfl, rfl, trivial⟩ II ?_
  rintro ⟨s, a, cap⟩ hs
  cases s
  · dsimp only at hs ⊢
    repeat (first | refine GO ?_ | refine NW fun _ => ?_)
    refine WL.step rfl (OP.call (pre := [blk p [.pointer (some ⟨b, 0, none⟩)] 63, A]) rfl rfl (as_faultsN p c _ A hu (fun h x => (hA h x).1)) PS rfl rfl ?_)
    rintro _ _ ⟨rfl, rfl⟩
    repeat (first | refine GO ?_ | refine NW fun _ => ?_)
    exact ret1 rfl ⟨[_], ⟨a, cap, rfl, rfl⟩, II⟩
  · dsimp only at hs ⊢
    repeat (first | refine GO ?_ | refine NW fun _ => ?_)
    refine WL.step rfl (OP.call (pre := [blk p [.pointer none] 63, A]) rfl rfl (as_faults b p _ A hu (fun h x => (hA h x).1)) PS rfl rfl ?_)
    rintro _ _ ⟨rfl, rfl⟩
    repeat (first | refine GO ?_ | refine NW fun _ => ?_)
    refine WL.step rfl (OP.append rfl rfl rfl rfl rfl rfl rfl rfl rfl P1 (Ent.own MM) rfl (by decide) (by decide) rfl rfl (fun a2 cap2 => ?_))
    repeat (first | refine GO ?_ | refine NW fun _ => ?_)
    refine WL.step rfl (OP.load1 (v := .iface 26 (.int .i64 c)) rfl rfl rfl rfl (Ent.mem (A := A) MM hu (fun h x => cellsAt_one (i := 2) (hA h x).2 rfl)) rfl rfl ?_)
    repeat (first | refine GO ?_ | refine NW fun _ => ?_)
    exact ⟨(false, a2, cap2), (fun h => nomatch h), Nat.zero_lt_one, ⟨rfl, rfl, rfl, trivial⟩, II⟩
set_option maxHeartbeats 1000000 in
set_option maxRecDepth 10000 in
theorem first_nil (op : ByteArray) : RO G 13 [.nilIface, .string op] (fun _ => True) (.tuple #[.int .i64 0, .bool false]) := by
  refine RO.enter Tryd.func13 rfl (by decide) rfl Tryd.ntmps13 rfl (fun A hu hA => ?_) (fun _ _ _ h => h)
  repeat (first | refine GO ?_ | refine NW fun _ => ?_)
  refine WL.step rfl (OP.callRT rfl rfl faults_nil (fun _ _ => trivial) rfl rfl ?_)
  rintro v E ⟨rfl, rfl⟩
  repeat (first | refine GO ?_ | refine NW fun _ => ?_)
  refine WC.loop (σ := Unit) (fun _ => True) (fun _ => [(10, .val (.int .i64 0)), (11, .val (.int .i64 0))]) (fun _ => [A]) (fun _ => 0) () trivial ⟨rfl, rfl, trivial⟩ II ?_
  rintro _ _
  repeat (first | refine GD ?_ | refine NW fun _ => ?_)
  exact ret2 rfl rfl ⟨rfl, MM⟩
set_option maxHeartbeats 1000000 in
set_option maxRecDepth 10000 in
theorem first_fault (b : Nat) (op op' : ByteArray) (at_ c : Int) : RO G 13 [.iface 63 (.pointer (some ⟨b, 0, none⟩)), .string op'] (FaultR b op at_ c) (if op = op' then .tuple #[.int .i64 at_, .bool true] else .tuple #[.int .i64 0, .bool false]) := by
  refine RO.enter Tryd.func13 rfl (by decide) rfl Tryd.ntmps13 rfl (fun A hu hA => ?_) (up_FaultR _ _ _ _)
  repeat (first | refine GO ?_ | refine NW fun _ => ?_)
  refine WL.step rfl (OP.callRT rfl rfl (faults_one b op at_ c) (Ent.mem MM hu hA) rfl rfl ?_)
  rintro v E ⟨a, cap, rfl, rfl⟩
  refine WL.fact (Ent.some (Ent.own (a := a) (n := 1) (cap := cap) (T := 63) (size := 1) (cs := [.pointer (some ⟨b, 0, none⟩)]) MM) (by decide)) ?_
  rintro ⟨b2, off2, rfl⟩
  repeat (first | refine GO ?_ | refine NW fun _ => ?_)
  refine WC.loop (σ := Nat) (fun k => k ≤ 1 ∧ (k = 1 → op ≠ op')) (fun k => [(1, .val (.string op')), (9, .val (.slice (some ⟨b2, off2, none⟩) 1 cap)), (10, .val (.int .i64 1)), (11, .val (.int .i64 k))]) (fun _ => [ownS (some ⟨b2, off2, none⟩) 1 cap 63 1 [.pointer (some ⟨b, 0, none⟩)], A]) (fun k => 1 - k) 0 ⟨by decide, (fun h => absurd h (by decide))⟩ ⟨rfl, rfl, rfl, rfl, trivial⟩ II ?_
  rintro k ⟨hk, hne⟩
  obtain rfl | rfl : k = 0 ∨ k = 1 := by omega
  · repeat (first | refine GD ?_ | refine NW fun _ => ?_)
    refine WL.step rfl (OP.load1 (v := .pointer (some ⟨b, 0, none⟩)) rfl rfl rfl rfl (Ent.elem (i := 0) (Ent.own (T := 63) MM) rfl rfl) rfl rfl ?_)
    repeat (first | refine GD ?_ | refine NW fun _ => ?_)
    refine WL.step rfl (OP.load1 (v := .string op) rfl rfl rfl rfl (Ent.mem (A := A) MM hu (fun h x => cellsAt_one (i := 0) (hA h x).2 rfl)) rfl rfl ?_)
    by_cases ho : op = op'
    · rw [if_pos ho]
      repeat (first | refine GD ?_ | refine NW fun _ => ?_)
      refine WL.step rfl (OP.load1 (v := .int .i64 at_) rfl rfl rfl rfl (Ent.mem (A := A) MM hu (fun h x => cellsAt_one (i := 1) (hA h x).2 rfl)) rfl rfl ?_)
      repeat (first | refine GD ?_ | refine NW fun _ => ?_)
      exact ret2 rfl rfl ⟨rfl, MM⟩
    · rw [if_neg ho]
      repeat (first | refine GD ?_ | refine NW fun _ => ?_)
      exact ⟨1, ⟨by decide, fun _ => ho⟩, by decide, ⟨rfl, rfl, rfl, rfl, trivial⟩, Imp.refl _⟩
  · rw [if_neg (hne rfl)]
    repeat (first | refine GD ?_ | refine NW fun _ => ?_)
    exact ret2 rfl rfl ⟨rfl, MM⟩
end Go.Proofs.YtacgheafbkfciaaDoor
/- Contracts of functions of the given program, and plain laws on what they compute: parts of the proofs of laws. -/

namespace Go.Proofs.YtacgheafbkfciaaDoor
open Go Go.GL

def chainE (ch : Chain) (c : Int) : Assn := fun h => ErrT h ∧ chainR ch c h
theorem up_chainE (ch : Chain) (c : Int) : Up (chainE ch c) := up_and up_ErrT (up_chainR ch c)
set_option maxRecDepth 10000 in
theorem unwrapC_ro (b : Nat) (op : ByteArray) (at_ : Int) (v : Value) : RO G 78 [.pointer (some ⟨b, 0, none⟩)] (cellsAt b 0 [.string op, .int .i64 at_, v]) v := by
  refine RO.enter Tryd.func78 rfl (by decide) rfl Tryd.ntmps78 rfl (fun A hu hA => ?_) (up_cellsAt _ _ _)
  repeat (first | refine GO ?_ | refine NW fun _ => ?_)
  refine WL.step rfl (OP.load1 (v := v) rfl rfl rfl rfl (Ent.mem (A := A) MM hu (fun h x => cellsAt_one (i := 2) (hA h x) rfl)) rfl rfl ?_)
  repeat (first | refine GO ?_ | refine NW fun _ => ?_)
  exact ret1 rfl ⟨rfl, MM⟩
set_option maxHeartbeats 4000000 in
set_option maxRecDepth 10000 in
theorem asN_chain (p q : Nat) (c : Int) (old : Value) (A : Assn) (hu : Up A) (ch : Chain) (hA : ∀ h, A h → chainR ch c h) :
    Triple G 31 [valOf ch c, .iface 55 (.pointer (some ⟨p, 0, none⟩)), .agg #[hd 55, .pointer (some ⟨q, 0, none⟩), .int .u64 150], rt 26] [blk p [old] 26, blk q [.pointer (some ⟨p, 0, none⟩)] 55, A] (fun v M => v = .bool true ∧ M = [blk p [.int .i64 c] 26, A]) := by
  refine Triple.enter Tryd.func31 rfl (by decide) rfl Tryd.ntmps31 rfl (fun X => ?_)
  repeat (first | refine GO ?_ | refine NW fun _ => ?_)
  rename_i bx
  refine WC.loop (σ := Chain) (fun s => ∀ h, A h → chainR s c h) (fun s => [(0, .val (valOf s c)), (1, .val (.iface 55 (.pointer (some ⟨p, 0, none⟩)))), (3, .val (rt 26)), (6, .val (.pointer (some ⟨bx, 0, none⟩))), (8, .val (.bool false))])
    (fun _ => [blk bx [hd 55, .pointer (some ⟨q, 0, none⟩), .int .u64 150] 72, blk p [old] 26, blk q [.pointer (some ⟨p, 0, none⟩)] 55, A, X]) (fun s => s.length) ch hA ⟨rfl, rfl, rfl, rfl, rfl, trivial⟩ II ?_
  rintro s hs
  cases s with
  | nil =>
    repeat (first | refine GD ?_ | refine NW fun _ => ?_)
    refine WL.step rfl (OP.extP (.call xTypeOf rfl rfl) (fun w _ => typeOfN _ w) rfl rfl ?_)
    repeat (first | refine GD ?_ | refine NW fun _ => ?_)
    refine WL.step rfl (OP.extP (.inv xAssignableTo rfl rfl rfl (fun w => mAssignableTo _ w)) (fun w _ => assignNN w) rfl rfl ?_)
    repeat (first | refine GD ?_ | refine NW fun _ => ?_)
    refine WL.step rfl (OP.extP (.call xElemV rfl rfl) (fun w s => elemVNP _ ⟨p, 0, none⟩ w (cell_of_blk0 (b := q) s MM rfl)) rfl rfl ?_)
    repeat (first | refine GD ?_ | refine NW fun _ => ?_)
    refine WL.step rfl (OP.extNew (mk := (fun n => .agg #[hd 26, .pointer (some ⟨n, 0, none⟩), .int .u64 130])) (.call xValueOf rfl rfl) (fun w _ => valueOfN _ w) rfl rfl (fun q2 => ?_))
    repeat (first | refine GD ?_ | refine NW fun _ => ?_)
    refine WL.step rfl (OP.extSet (.call xSet rfl rfl) (fun w s => setN ⟨p, 0, none⟩ ⟨q2, 0, none⟩ c old w (cell_of_blk0 (b := q2) s MM rfl) (cell_of_blk0 (b := p) s MM rfl) (Sat.notFrozen (b := p) (c := [old]) (T := 26) s MM (Nat.zero_lt_succ _))) (by repeat (first | exact Upd.here _ _ _ _ _ | apply Upd.there)) rfl rfl ?_)
    repeat (first | refine GD ?_ | refine NW fun _ => ?_)
    exact ret1 rfl ⟨_, ⟨rfl, rfl⟩, II⟩
  | cons x r =>
    repeat (first | refine GD ?_ | refine NW fun _ => ?_)
    refine WL.step rfl (OP.extP (.call xTypeOf rfl rfl) (fun w _ => typeOfF _ w) rfl rfl ?_)
    repeat (first | refine GD ?_ | refine NW fun _ => ?_)
    refine WL.step rfl (OP.extP (.inv xAssignableTo rfl rfl rfl (fun w => mAssignableTo _ w)) (fun w _ => assignFN w) rfl rfl ?_)
    repeat (first | refine GD ?_ | refine NW fun _ => ?_)
    refine WL.step rfl (OP.assert rfl rfl (fun w => assertFIA _ w) rfl rfl ?_)
    repeat (first | refine GD ?_ | refine NW fun _ => ?_)
    refine WL.step rfl (OP.assert rfl rfl (fun w => assertFIU _ w) rfl rfl ?_)
    repeat (first | refine GD ?_ | refine NW fun _ => ?_)
    refine WL.step rfl (OP.invRO rfl rfl (fun w => mUnwrap _ w) (unwrapC_ro x.1 x.2.1 x.2.2 (valOf r c)) (Ent.mem (A := A) MM hu (fun h a => (hs h a).1)) rfl rfl ?_)
    cases r with
    | nil =>
      repeat (first | refine GD ?_ | refine NW fun _ => ?_)
      exact ⟨[], (fun h a => (hs h a).2), by simp, ⟨rfl, rfl, rfl, rfl, rfl, trivial⟩, II⟩
    | cons y r =>
      repeat (first | refine GD ?_ | refine NW fun _ => ?_)
      exact ⟨y :: r, (fun h a => (hs h a).2), by simp, ⟨rfl, rfl, rfl, rfl, rfl, trivial⟩, II⟩
set_option maxHeartbeats 4000000 in
set_option maxRecDepth 10000 in
theorem as_codeC (p : Nat) (c : Int) (old : Value) (A : Assn) (hu : Up A) (ch : Chain) (hA : ∀ h, A h → chainE ch c h) :
    Triple G 20 [valOf ch c, .iface 55 (.pointer (some ⟨p, 0, none⟩))] ([blk p [old] 26, A]) (fun v M => v = .bool true ∧ M = [blk p [.int .i64 c] 26, A]) := by
  refine Triple.enter Tryd.func20 rfl (by decide) rfl Tryd.ntmps20 rfl (fun F => ?_)
  have hE : ∀ h, A h → ErrT h := fun h a => (hA h a).1
  have hN := fun p q old => asN_chain p q c old A hu ch (fun h a => (hA h a).2)
  cases ch with
  | nil =>
    repeat (first | refine GO ?_ | refine NW fun _ => ?_)
    refine WL.step rfl (OP.extNew (mk := fun n => .agg #[hd 55, .pointer (some ⟨n, 0, none⟩), .int .u64 150]) (.call xValueOf rfl rfl) (fun w _ => valueOfNP _ w) rfl rfl (fun q => ?_))
    repeat (first | refine GO ?_ | refine NW fun _ => ?_)
    refine WL.step rfl (OP.extP (.call xType rfl rfl) (fun w _ => typeNP _ w) rfl rfl ?_)
    repeat (first | refine GO ?_ | refine NW fun _ => ?_)
    refine WL.step rfl (OP.extP (.inv xKind rfl rfl rfl (fun w => mKind _ w)) (fun w _ => kindNP w) rfl rfl ?_)
    repeat (first | refine GO ?_ | refine NW fun _ => ?_)
    refine WL.guardT rfl rfl rfl rfl (OP.extP (.call xIsNil rfl rfl) (fun w s => isNilNP _ ⟨p, 0, none⟩ w (cell_of_blk0 (b := q) s MM rfl)) rfl rfl ?_)
    repeat (first | refine GO ?_ | refine NW fun _ => ?_)
    refine WL.step rfl (OP.extP (.inv xElem rfl rfl rfl (fun w => mElem _ w)) (fun w _ => elemNP w) rfl rfl ?_)
    repeat (first | refine GO ?_ | refine NW fun _ => ?_)
    refine WL.step rfl (OP.extP (.inv xKind rfl rfl rfl (fun w => mKind _ w)) (fun w _ => kindN w) rfl rfl ?_)
    repeat (first | refine GO ?_ | refine NW fun _ => ?_)
    refine WL.guardT rfl rfl rfl rfl (OP.load1 (v := errT) rfl rfl rfl rfl (Ent.mem (A := A) MM hu hE) rfl rfl ?_)
    repeat (first | refine GO ?_ | refine NW fun _ => ?_)
    refine WL.guardT rfl rfl rfl rfl (OP.extP (.inv xImplements rfl rfl rfl (fun w => mImplements _ w)) (fun w _ => implementsN w) rfl rfl ?_)
    repeat (first | refine GO ?_ | refine NW fun _ => ?_)
    refine WL.step rfl (OP.call (pre := [blk p [old] 26, blk q [.pointer (some ⟨p, 0, none⟩)] 55, A]) rfl rfl (hN p q old) PS rfl rfl ?_)
    rintro _ _ ⟨rfl, rfl⟩
    repeat (first | refine GO ?_ | refine NW fun _ => ?_)
    exact ret1 rfl ⟨_, ⟨rfl, rfl⟩, II⟩
  | cons x r =>
    repeat (first | refine GO ?_ | refine NW fun _ => ?_)
    refine WL.step rfl (OP.extNew (mk := fun n => .agg #[hd 55, .pointer (some ⟨n, 0, none⟩), .int .u64 150]) (.call xValueOf rfl rfl) (fun w _ => valueOfNP _ w) rfl rfl (fun q => ?_))
    repeat (first | refine GO ?_ | refine NW fun _ => ?_)
    refine WL.step rfl (OP.extP (.call xType rfl rfl) (fun w _ => typeNP _ w) rfl rfl ?_)
    repeat (first | refine GO ?_ | refine NW fun _ => ?_)
    refine WL.step rfl (OP.extP (.inv xKind rfl rfl rfl (fun w => mKind _ w)) (fun w _ => kindNP w) rfl rfl ?_)
    repeat (first | refine GO ?_ | refine NW fun _ => ?_)
    refine WL.guardT rfl rfl rfl rfl (OP.extP (.call xIsNil rfl rfl) (fun w s => isNilNP _ ⟨p, 0, none⟩ w (cell_of_blk0 (b := q) s MM rfl)) rfl rfl ?_)
    repeat (first | refine GO ?_ | refine NW fun _ => ?_)
    refine WL.step rfl (OP.extP (.inv xElem rfl rfl rfl (fun w => mElem _ w)) (fun w _ => elemNP w) rfl rfl ?_)
    repeat (first | refine GO ?_ | refine NW fun _ => ?_)
    refine WL.step rfl (OP.extP (.inv xKind rfl rfl rfl (fun w => mKind _ w)) (fun w _ => kindN w) rfl rfl ?_)
    repeat (first | refine GO ?_ | refine NW fun _ => ?_)
    refine WL.guardT rfl rfl rfl rfl (OP.load1 (v := errT) rfl rfl rfl rfl (Ent.mem (A := A) MM hu hE) rfl rfl ?_)
    repeat (first | refine GO ?_ | refine NW fun _ => ?_)
    refine WL.guardT rfl rfl rfl rfl (OP.extP (.inv xImplements rfl rfl rfl (fun w => mImplements _ w)) (fun w _ => implementsN w) rfl rfl ?_)
    repeat (first | refine GO ?_ | refine NW fun _ => ?_)
    refine WL.step rfl (OP.call (pre := [blk p [old] 26, blk q [.pointer (some ⟨p, 0, none⟩)] 55, A]) rfl rfl (hN p q old) PS rfl rfl ?_)
    rintro _ _ ⟨rfl, rfl⟩
    repeat (first | refine GO ?_ | refine NW fun _ => ?_)
    exact ret1 rfl ⟨_, ⟨rfl, rfl⟩, II⟩
set_option maxRecDepth 10000 in
theorem codeC (ch : Chain) (c : Int) : RO G 7 [valOf ch c] (chainE ch c) (.int .i64 c) := by
  refine RO.enter Tryd.func7 rfl (by decide) rfl Tryd.ntmps7 rfl (fun A hu hA => ?_) (up_chainE _ _)
  repeat (first | refine GO ?_ | refine NW fun _ => ?_)
  rename_i p
  refine WL.step rfl (OP.call (pre := [blk p [.int .i64 0] 26, A]) rfl rfl (as_codeC p c (.int .i64 0) A hu ch hA) PS rfl rfl ?_)
  rintro _ _ ⟨rfl, rfl⟩
  repeat (first | refine GO ?_ | refine NW fun _ => ?_)
  exact ret1 rfl ⟨rfl, MM⟩
def ptrOf (x : Nat × ByteArray × Int) : Value := .pointer (some ⟨x.1, 0, none⟩)
theorem asFN (p : Nat) (ch : Chain) (c : Int) (old : Value) (A : Assn) (hu : Up A) (hA : ∀ h, A h → ErrT h) :
    Triple G 20 [valOf ch c, .iface 82 (.pointer (some ⟨p, 0, none⟩))] ([blk p [old] 63, A]) (fun v M => match ch with
      | [] => v = .bool false ∧ M = [blk p [old] 63, A]
      | x :: _ => v = .bool true ∧ M = [blk p [ptrOf x] 63, A]) := by
  cases ch with
  | nil => exact as_faultsN p c old A hu hA
  | cons x r => exact as_faults x.1 p old A hu hA
set_option maxHeartbeats 1000000 in
set_option maxRecDepth 10000 in
theorem faultsC (ch : Chain) (c : Int) (hl : ch.length < 1000) : RT G 24 [valOf ch c] (chainE ch c) (Ptrs (ch.map ptrOf)) := by
  refine RT.enter Tryd.func24 rfl (by decide) rfl Tryd.ntmps24 rfl (fun A hu hA => ?_)
  repeat (first | refine GO ?_ | refine NW fun _ => ?_)
  rename_i p
  refine WC.imp (Imp.nilS 63 1) ?_
  refine WC.loop (σ := Chain × Chain × Value × Option Addr × Nat) (fun s => s.1 ++ s.2.1 = ch ∧ ∀ h, A h → chainR s.2.1 c h)
    (fun s => [(0, .val (valOf s.2.1 c)), (3, .val (.slice s.2.2.2.1 s.1.length s.2.2.2.2)), (4, .val (.pointer (some ⟨p, 0, none⟩)))])
    (fun s => [blk p [s.2.2.1] 63, ownS s.2.2.2.1 s.1.length s.2.2.2.2 63 1 (s.1.map ptrOf), A])
    (fun s => s.2.1.length) ([], ch, .pointer none, none, 0) ⟨rfl, fun h a => (hA h a).2⟩ ⟨rfl, rfl, rfl, trivial⟩ II ?_
  rintro ⟨d, r, old, a, cap⟩ ⟨hd, hr⟩
  dsimp only at hd hr ⊢
  have hE : ∀ h, A h → ErrT h := fun h a => (hA h a).1
  cases r with
  | nil =>
    rw [List.append_nil] at hd
    subst hd
    repeat (first | refine GO ?_ | refine NW fun _ => ?_)
    refine WL.step rfl (OP.call (pre := [blk p [old] 63, A]) rfl rfl (as_faultsN p c _ A hu hE) PS rfl rfl ?_)
    rintro _ _ ⟨rfl, rfl⟩
    repeat (first | refine GO ?_ | refine NW fun _ => ?_)
    exact ret1 rfl ⟨[_], ⟨a, cap, by rw [List.length_map], by rw [List.length_map]⟩, II⟩
  | cons x r =>
    have hdl : d.length < 1000 := by rw [← hd, List.length_append] at hl; omega
    repeat (first | refine GO ?_ | refine NW fun _ => ?_)
    refine WL.step rfl (OP.call (pre := [blk p [old] 63, A]) rfl rfl (as_faults x.1 p _ A hu hE) PS rfl rfl ?_)
    rintro _ _ ⟨rfl, rfl⟩
    repeat (first | refine GO ?_ | refine NW fun _ => ?_)
    refine WL.step rfl (OP.append rfl rfl rfl rfl rfl rfl rfl rfl rfl P1 (Ent.own MM) rfl (by omega) (by omega) rfl rfl (fun a2 cap2 => ?_))
    repeat (first | refine GO ?_ | refine NW fun _ => ?_)
    refine WL.step rfl (OP.load1 (v := valOf r c) rfl rfl rfl rfl (Ent.mem (A := A) MM hu (fun h y => cellsAt_one (i := 2) (hr h y).1 rfl)) rfl rfl ?_)
    repeat (first | refine GO ?_ | refine NW fun _ => ?_)
    exact ⟨(d ++ [x], r, .pointer (some ⟨x.1, 0, none⟩), a2, cap2), ⟨by rw [← hd]; simp, fun h a => (hr h a).2⟩, by dsimp only; simp, ⟨rfl, by rw [List.length_append]; rfl, rfl, trivial⟩, by rw [List.length_append, List.map_append]; exact II⟩
/-- the outermost one of a name -/
def firstC (op : ByteArray) : List (ByteArray × Int) → Option Int
  | [] => none
  | x :: r => if x.1 = op then some x.2 else firstC op r
def firstV (o : Option Int) : Value := match o with
  | some n => .tuple #[.int .i64 n, .bool true]
  | none => .tuple #[.int .i64 0, .bool false]
theorem chainR_get : ∀ {ch : Chain} {c : Int} {h : Hp}, chainR ch c h → ∀ k (hk : k < ch.length), ∃ v, cellsAt ch[k].1 0 [.string ch[k].2.1, .int .i64 ch[k].2.2, v] h
  | x :: r, c, h, hh, 0, _ => ⟨_, hh.1⟩
  | x :: r, c, h, hh, k + 1, hk => chainR_get hh.2 k (by simpa using hk)
theorem cellsAt_pre {b off : Nat} {l m : List Value} {h : Hp} (x : cellsAt b off (l ++ m) h) : cellsAt b off l h := by
  obtain ⟨c, T, fr, hb, hc⟩ := x
  exact ⟨c, T, fr, hb, fun i v hi => hc i v (by rw [List.getElem?_append_left (List.getElem?_eq_some_iff.1 hi).1]; exact hi)⟩
set_option maxHeartbeats 1000000 in
set_option maxRecDepth 10000 in
theorem firstC_ro (ch : Chain) (c : Int) (op : ByteArray) (hl : ch.length < 1000) : RO G 13 [valOf ch c, .string op] (chainE ch c) (firstV (firstC op (ch.map Prod.snd))) := by
  refine RO.enter Tryd.func13 rfl (by decide) rfl Tryd.ntmps13 rfl (fun A hu hA => ?_) (up_chainE _ _)
  repeat (first | refine GO ?_ | refine NW fun _ => ?_)
  refine WL.step rfl (OP.callRT rfl rfl (faultsC ch c hl) (Ent.mem MM hu hA) rfl rfl ?_)
  rintro v E ⟨a, cap, rfl, rfl⟩
  rw [List.length_map]
  repeat (first | refine GO ?_ | refine NW fun _ => ?_)
  refine WC.loop (σ := Nat) (fun k => k ≤ ch.length ∧ firstC op (ch.map Prod.snd) = firstC op ((ch.drop k).map Prod.snd)) (fun k => [(1, .val (.string op)), (9, .val (.slice a ch.length cap)), (10, .val (.int .i64 ch.length)), (11, .val (.int .i64 k))]) (fun _ => [ownS a ch.length cap 63 1 (ch.map ptrOf), A]) (fun k => ch.length - k) 0 ⟨Nat.zero_le _, rfl⟩ ⟨rfl, rfl, rfl, rfl, trivial⟩ II ?_
  rintro k ⟨hk, hf⟩
  by_cases hlt : k < ch.length
  rotate_left
  · rw [List.drop_eq_nil_of_le (by omega)] at hf
    rw [hf]
    repeat (first | refine GD ?_ | refine NW fun _ => ?_)
    exact ret2 rfl rfl ⟨rfl, MM⟩
  rw [List.drop_eq_getElem_cons hlt, List.map_cons] at hf
  refine WC.fact (Ent.some (Ent.own (a := a) (n := ch.length) (cap := cap) (T := 63) (size := 1) (cs := ch.map ptrOf) MM) (by omega)) ?_
  rintro ⟨b2, off2, rfl⟩
  have hg : ∀ {L}, A ∈ L → Ent L (cellsAt ch[k].1 0 [.string ch[k].2.1, .int .i64 ch[k].2.2]) := fun m => Ent.mem m hu fun h a => by
    obtain ⟨v, hv⟩ := chainR_get (hA h a).2 k hlt
    exact cellsAt_pre (m := [v]) hv
  have hel : (ch.map ptrOf)[k * 1]? = some (ptrOf ch[k]) := by simp [hlt]
  generalize ch[k] = x at *
  repeat (first | refine GD ?_ | refine NW fun _ => ?_)
  refine WL.step rfl (OP.load1 (v := .pointer (some ⟨x.1, 0, none⟩)) rfl rfl rfl rfl (Ent.elem (i := k * 1) (Ent.own (T := 63) MM) rfl hel) rfl rfl ?_)
  repeat (first | refine GD ?_ | refine NW fun _ => ?_)
  refine WL.step rfl (OP.load1 (v := .string x.2.1) rfl rfl rfl rfl (Ent.one (i := 0) (hg MM) rfl) rfl rfl ?_)
  by_cases ho : x.2.1 = op
  · rw [hf, firstC, if_pos ho]
    repeat (first | refine GD ?_ | refine NW fun _ => ?_)
    refine WL.step rfl (OP.load1 (v := .int .i64 x.2.2) rfl rfl rfl rfl (Ent.one (i := 1) (hg MM) rfl) rfl rfl ?_)
    repeat (first | refine GD ?_ | refine NW fun _ => ?_)
    exact ret2 rfl rfl ⟨rfl, MM⟩
  · rw [firstC, if_neg ho] at hf
    repeat (first | refine GD ?_ | refine NW fun _ => ?_)
    exact ⟨k + 1, ⟨by omega, hf⟩, by omega, ⟨rfl, rfl, rfl, rfl, trivial⟩, Imp.refl _⟩
end Go.Proofs.YtacgheafbkfciaaDoor
