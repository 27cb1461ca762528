/-
  The law CoordChanges holds: whatever the input, the Go function returns true, and each argument reads as it did. Conditions: none beyond the statement's own.
-/
import Derived.Test.YtacgheafbkfciaaZCO4
import Derived.Test.YtacgheafbkfciaaZCO12
import Derived.Test.YtacgheafbkfciaaRows
import Derived.Test.YtacgheafbkfciaaZCO3
/- Contracts of functions of the given program, and plain laws on what they compute: parts of the proofs of laws. -/

namespace Go.Proofs.Ytacgheafbkfciaa
open Go Go.GL

theorem mem_listV {f : List Bool} (hf : f.length = 4) {v : Int} (h : 0 ≤ v ∧ v < 4) : (v ∈ listM f) ↔ f.getD v.toNat false = true := by
  have := mem_listB f v.toNat (by omega)
  rwa [Int.toNat_of_nonneg h.1] at this
theorem not_listV {f : List Bool} (hf : f.length = 4) {v : Int} (h : ¬ (0 ≤ v ∧ v < 4)) : v ∉ listM f := by
  intro hv
  unfold listM at hv
  obtain ⟨a, ha, rfl⟩ := List.mem_map.1 hv
  have := List.mem_range.1 (List.mem_filter.1 ha).1
  exact h ⟨Int.natCast_nonneg _, by show (a : Int) < 4; omega⟩
theorem has_snoc {l : List Int} {v : Int} {k : Nat} (h : k < l.length) : decide (v ∈ l.take (k + 1)) = (decide (v ∈ l.take k) || decide (l[k] = v)) := by
  rw [← Bool.decide_or, decide_eq_decide, ← List.take_append_getElem h, List.mem_append, List.mem_singleton]
  exact or_congr Iff.rfl ⟨fun e => e.symm, fun e => e.symm⟩
set_option maxHeartbeats 32000000 in
set_option maxRecDepth 10000 in
theorem cchanges_ro (a : Option Addr) (n c : Nat) (fl : List Int) (v : Int) (inn : Bool) (rounds keep : Int) (hn : n = fl.length) (hm : 0 ≤ rounds ∧ rounds ≤ 255) (hk : 0 ≤ keep ∧ keep < 18446744073709551616) :
    RO G 7 [.slice a n c, .int .i64 v, .bool inn, .int .u8 rounds, .int .u64 keep] (readS a n 1 (fl.map vI)) (.bool true) := by
  refine RO.enter Try.func7 rfl (by decide) rfl Try.ntmps7 rfl (fun A hu hA => ?_) (up_readS _ _ _ _)
  have hww : widest = 1152921504606846975 := rfl
  repeat (first | refine GD ?_ | refine NW fun _ => ?_)
  refine WL.step rfl (OP.callRO rfl rfl cawake_ro (fun _ _ => trivial) rfl rfl ?_)
  by_cases h10 : 10 < n
  · repeat (first | refine GD ?_ | refine NW fun _ => ?_)
    refine WL.step rfl (OP.callRO rfl rfl cawake_ro (fun _ _ => trivial) rfl rfl ?_)
    repeat (first | refine GD ?_ | refine NW fun _ => ?_)
    exact ret1 rfl ⟨rfl, MM⟩
  repeat (first | refine GD ?_ | refine NW fun _ => ?_)
  refine WL.step rfl (OP.callRT rfl rfl (dnew_rt 66) (fun _ _ => trivial) rfl rfl ?_)
  rintro _ _ ⟨q, rfl, rfl⟩
  repeat (first | refine GD ?_ | refine NW fun _ => ?_)
  cases hnw : newM fl f0 with
  | error vc =>
    obtain ⟨bv, ce⟩ := vc
    have hop := copen_ok q 64 (a, n, c) (Dsk.new 66) A hu fl hA (show n < 1000000 by omega) (Dsk.new_ok 66) (by decide) (by decide) (fun J2 D2 h => by
      obtain ⟨J, D, ho, _, _, _, _, I⟩ := CInv.fresh (n := 66) (ring := 64) (by decide) (by decide) (by decide) (by decide) (l := []) (f := f0) rfl
      have ho' : openM (Dsk.new 66) 64 = .ok (J, D) := ho
      rw [ho'] at h; cases h; exact ⟨I.jr (by omega), I.J.right⟩)
    unfold OpenCo at hop
    rw [show openC (Dsk.new 66) 64 fl = .error ([(coordT, 0), (memT, bv)], ce) by unfold openC; rw [hnw]] at hop
    refine WL.step rfl (OP.call (pre := [dsk q (Dsk.new 66), A]) rfl rfl hop PS rfl rfl ?_)
    rintro _ _ ⟨e, E, hE, rfl, rfl⟩
    obtain ⟨y, ch, hc1, rfl, rfl⟩ := isEr_one hE (by simp)
    repeat (first | refine GD ?_ | refine NW fun _ => ?_)
    exact ret1 rfl ⟨rfl, MM⟩
  | ok f =>
  obtain ⟨J, D, ho, hr, hh, hoc, hst, I0⟩ := CInv.fresh (n := 66) (ring := 64) (by decide) (by decide) (by decide) (by decide) hnw
  have ho' : openM (Dsk.new 66) 64 = .ok (J, D) := ho
  have hoc' : openC (Dsk.new 66) 64 fl = .ok ⟨J, D, f, [], rnd0, 0, 0⟩ := hoc
  have hop := copen_ok q 64 (a, n, c) (Dsk.new 66) A hu fl hA (show n < 1000000 by omega) (Dsk.new_ok 66) (by decide) (by decide) (fun J2 D2 h => by
    rw [ho'] at h; cases h; exact ⟨I0.jr (by omega), I0.J.right⟩)
  unfold OpenCo at hop
  rw [hoc'] at hop
  have hlen : (listM f).length = n := by rw [order_len hnw, hn]
  have hf4 : f.length = 4 := newM_length hnw
  have hl4 : (listM f).length ≤ 4 := by have := listM_len f; omega
  have hmem : ∀ k, listM (atM k f []) = listM f := fun _ => rfl
  refine WL.step rfl (OP.call (pre := [dsk q (Dsk.new 66), A]) rfl rfl hop PS rfl rfl ?_)
  rintro _ _ ⟨p, g, rfl, rfl⟩
  obtain ⟨N, hN, hN20⟩ : ∃ N : Nat, rounds % 6 = N ∧ N < 6 := ⟨(rounds % 6).toNat, by omega, by omega⟩
  repeat (first | refine GD ?_ | refine NW fun _ => ?_)
  rw [hN]
  refine WC.loop (σ := Nat × Crd) (fun s => s.1 ≤ N ∧ CInv s.2 (3 + 4 * s.1) ∧ s.2.last = s.1 ∧ s.2.ch = [] ∧ s.2.f = f ∧ s.2.R.number = 0 ∧ s.2.J.ring = 64 ∧ s.2.J.held.length = s.1)
    (fun s => [(0, .val (.slice a n c)), (1, .val (.int .i64 v)), (2, .val (.bool inn)), (4, .val (.int .u64 keep)), (11, .val (.pointer (some ⟨p, 0, none⟩))), (13, .val (.int .i64 N)), (45, .val (.int .i64 N)), (46, .val (.int .i64 s.1))])
    (fun s => [crdA p q g (a, n, c) s.2, dsk q s.2.D, A]) (fun s => N - s.1) (0, ⟨J, D, f, [], rnd0, 0, 0⟩) ⟨Nat.zero_le _, I0, rfl, rfl, rfl, rfl, hr, by rw [hh]; rfl⟩ ⟨rfl, rfl, rfl, rfl, rfl, rfl, rfl, rfl, trivial⟩ (Imp.refl _) ?_
  rintro ⟨i, C⟩ ⟨hi, I, hl, hch, hf, hnum, hring, hheld⟩
  dsimp only at hi I hl hch hf hnum hring hheld ⊢
  by_cases hlt : i < N
  · have hmk : C.mem (C.last + 1) = listM f := by unfold Crd.mem; rw [hf, hch]; exact hmem _
    have hcb := cbegin_ok p q g (a, n, c) C _ I (by omega)
    unfold BeginCo at hcb
    by_cases h0 : listM f = []
    · have hop : beginC C = .error ([(coordT, C.last + 1)], 8) := by unfold beginC; rw [if_neg (not_not_intro hnum), if_pos (hmk.trans h0)]
      rw [hop] at hcb
      have hn0 : n = 0 := by rw [h0] at hlen; exact hlen.symm
      subst hn0
      repeat (first | refine GD ?_ | refine NW fun _ => ?_)
      refine WL.step rfl (OP.call (pre := [crdA p q g _ _, dsk q C.D]) rfl rfl hcb PS rfl rfl ?_)
      rintro _ _ ⟨e, E, hE, rfl, rfl⟩
      obtain ⟨y, ch, hc1, rfl, rfl⟩ := isEr_one hE (by simp)
      repeat (first | refine GD ?_ | refine NW fun _ => ?_)
      exact ret1 rfl ⟨rfl, MM⟩
    obtain ⟨l, C1, hbg⟩ := I.beginOk (by omega) hnum (by rw [hmk]; exact h0) (by omega)
    rw [hbg] at hcb
    obtain ⟨I1, _, hl1, hch1, hf1, _, _, hr1, hh1, _, _, hl', _⟩ := I.begin (by omega) hbg
    have hcr := ccrash_ok p q g (a, n, c) C1 _ I1 (by omega) keep hk A hu fl hA (show n < 1000000 by omega) (by rw [hf1, hf]; exact hnw)
    repeat (first | refine GD ?_ | refine NW fun _ => ?_)
    refine WL.step rfl (OP.call (pre := [crdA p q g _ _, dsk q C.D]) rfl rfl hcb PS rfl rfl ?_)
    rintro _ _ ⟨_, _, ⟨xa, xc, rfl, rfl⟩, rfl, rfl⟩
    repeat (first | refine GD ?_ | refine NW fun _ => ?_)
    refine WL.step rfl (OP.call (pre := [crdA p q g _ C1, dsk q C1.D, A]) rfl rfl hcr PS rfl rfl ?_)
    rintro _ _ ⟨rfl, J', D', _, er, eh, _, I2, rfl⟩
    repeat (first | refine GD ?_ | refine NW fun _ => ?_)
    exact ⟨(i + 1, { C1 with J := J', D := D', R := rnd0, marked := 0 }), ⟨by dsimp only; omega, I2.mono (by dsimp only; omega), by dsimp only; omega, hch1.trans hch, hf1.trans hf, rfl, er.trans (hr1.trans hring), by dsimp only; rw [eh, hh1, hheld]⟩, by dsimp only; omega, ⟨rfl, rfl, rfl, rfl, rfl, rfl, rfl, rfl, trivial⟩, II⟩
  have hiN : i = N := by omega
  subst hiN
  have hgt := gat_rt g C.f C.ch i I.f4 I.vols I.few
  rw [hf, hch, hmem] at hgt
  repeat (first | refine GD ?_ | refine NW fun _ => ?_)
  refine WL.step rfl (OP.callRO rfl rfl (cgroup_ro p q g (a, n, c) C) (Ent.at (up_crdA _ _ _ _ _) MM) rfl rfl ?_)
  repeat (first | refine GD ?_ | refine NW fun _ => ?_)
  refine WL.step rfl (OP.callRT rfl rfl hgt (hf ▸ hch ▸ crd_grp (C := C) (p := p) (q := q) (fv := (a, n, c)) MM) rfl rfl ?_)
  rintro _ _ ⟨aW, cW, rfl, rfl⟩
  generalize hlw : listM f = was at *
  repeat (first | refine GD ?_ | refine NW fun _ => ?_)
  refine WC.loop (σ := Nat) (fun k => k ≤ (was).length)
    (fun k => [(0, .val (.slice a n c)), (1, .val (.int .i64 v)), (2, .val (.bool inn)), (4, .val (.int .u64 keep)), (11, .val (.pointer (some ⟨p, 0, none⟩))), (13, .val (.int .i64 i)), (17, .val (.slice aW was.length cW)), (17, .val (.slice aW (was).length cW)), (18, .val (.bool (decide (v ∈ (was).take k)))), (69, .val (.int .i64 (was).length)), (70, .val (.int .i64 k))])
    (fun _ => [ownS aW was.length cW 3 1 (was.map vI), crdA p q g (a, n, c) C, dsk q C.D, A]) (fun k => (was).length - k) 0 (Nat.zero_le _) ⟨rfl, rfl, rfl, rfl, rfl, rfl, rfl, rfl, rfl, rfl, rfl, trivial⟩ II ?_
  intro k hkL
  by_cases hlk : k < (was).length
  · have hsn := has_snoc (v := v) hlk
    refine WC.fact (Ent.some (Ent.own (a := aW) (n := (was).length) (cap := cW) (T := 3) (size := 1) (cs := (was).map vI) MM) (by omega)) ?_
    rintro ⟨bW, oW, rfl⟩
    by_cases h1 : v ∈ (was).take k
    · rw [decide_eq_true h1, Bool.true_or] at hsn
      have hz := congrArg (fun b => some (Slot.val (Value.bool b))) hsn.symm
      rw [decide_eq_true h1]
      repeat (first | refine GD ?_ | refine NW fun _ => ?_)
      exact ⟨k + 1, by omega, by omega, ⟨rfl, rfl, rfl, rfl, rfl, rfl, rfl, rfl, hz, rfl, rfl, trivial⟩, Imp.refl _⟩
    · rw [decide_eq_false h1, Bool.false_or] at hsn
      rw [decide_eq_false h1]
      repeat (first | refine GD ?_ | refine NW fun _ => ?_)
      refine WL.guardT rfl rfl rfl rfl (OP.load1 (v := vI (was)[k]) rfl rfl rfl rfl (Ent.elem (i := k * 1) (Ent.own (T := 3) (n := (was).length) (cap := cW) MM) rfl (int_at hlk)) rfl rfl ?_)
      by_cases h2 : (was)[k] = v
      · rw [decide_eq_true h2] at hsn
        have hz := congrArg (fun b => some (Slot.val (Value.bool b))) hsn.symm
        repeat (first | refine GD ?_ | refine NW fun _ => ?_)
        exact ⟨k + 1, by omega, by omega, ⟨rfl, rfl, rfl, rfl, rfl, rfl, rfl, rfl, hz, rfl, rfl, trivial⟩, Imp.refl _⟩
      · rw [decide_eq_false h2] at hsn
        have hz := congrArg (fun b => some (Slot.val (Value.bool b))) hsn.symm
        repeat (first | refine GD ?_ | refine NW fun _ => ?_)
        exact ⟨k + 1, by omega, by omega, ⟨rfl, rfl, rfl, rfl, rfl, rfl, rfl, rfl, hz, rfl, rfl, trivial⟩, Imp.refl _⟩
  have hkk : k = (was).length := by omega
  subst hkk
  rw [List.take_length]
  have hcg := cchg_ok p q g (a, n, c) C _ v inn I (by omega)
  unfold ChangeCo at hcg
  have hpm : putM C.f C.ch (C.last + 1, v, !inn) = if ¬ (0 ≤ v ∧ v < 4) then some 5 else if f.getD v.toNat false ≠ !inn then some 9 else none := by
    unfold putM
    rw [hf, hch]
    dsimp only
    rw [if_neg (show ¬ C.last + 1 ≤ lastM [] by show ¬ C.last + 1 ≤ 0; omega), if_neg (show ¬ 1152921504606846975 < C.last + 1 by omega), if_neg (show ¬ 100 ≤ ([] : List Ch).length by decide)]
    rfl
  have hcdef : changeC C v inn = match putM C.f C.ch (C.last + 1, v, !inn) with
    | some c => .error ([(coordT, v), (memT, v)], c)
    | none => match appendM C.J C.D (chgR v inn) with
      | .error c => .error ((coordT, v) :: appEr C.J c, c)
      | .ok (J', D') => .ok { C with J := J', D := D'.flush, ch := C.ch ++ [(C.last + 1, v, !inn)] } := by
    unfold changeC
    rw [if_neg (by omega)]
    rfl
  by_cases hbad : ¬ (0 ≤ v ∧ v < 4) ∨ decide (v ∈ was) = inn
  · have hpe : ∃ ce, putM C.f C.ch (C.last + 1, v, !inn) = some ce := by
      rw [hpm]
      by_cases hrg : 0 ≤ v ∧ v < 4
      · have hd := hbad.resolve_left (not_not_intro hrg)
        rw [if_neg (not_not_intro hrg), if_pos]
        · exact ⟨_, rfl⟩
        · have hmv := mem_listV hf4 hrg
          rw [hlw] at hmv
          rw [← hd]
          by_cases hvm : v ∈ was
          · rw [hmv.1 hvm, decide_eq_true hvm]; decide
          · have : f.getD v.toNat false = false := by
              cases hg : f.getD v.toNat false with
              | false => rfl
              | true => exact absurd (hmv.2 hg) hvm
            rw [this, decide_eq_false hvm]; decide
      · rw [if_pos hrg]; exact ⟨_, rfl⟩
    obtain ⟨ce, hpe⟩ := hpe
    rw [hpe] at hcdef
    dsimp only at hcdef
    rw [hcdef] at hcg
    have hcr := ccrash_ok p q g (a, n, c) C _ I (by omega) keep hk A hu fl hA (show n < 1000000 by omega) (by rw [hf]; exact hnw)
    repeat (first | refine GD ?_ | refine NW fun _ => ?_)
    refine WL.step rfl (OP.call (pre := [crdA p q g _ C, dsk q C.D]) rfl rfl hcg PS rfl rfl ?_)
    rintro v0 _ ⟨E, hE, rfl⟩
    obtain ⟨y, ch, hc1, rfl, rfl⟩ := isEr_one hE (by simp)
    repeat (first | refine GD ?_ | refine NW fun _ => ?_)
    refine WL.step rfl (OP.call (pre := [crdA p q g _ C, dsk q C.D, A]) rfl rfl hcr PS rfl rfl ?_)
    rintro _ _ ⟨rfl, J', D', _, er, eh, _, I2, rfl⟩
    generalize hC2 : ({ C with J := J', D := D', R := rnd0, marked := 0 } : Crd) = C2 at *
    have hf2 : C2.f = f := by rw [← hC2]; exact hf
    have hch2 : C2.ch = [] := by rw [← hC2]; exact hch
    have hg2 := gat_rt g C2.f C2.ch i I2.f4 I2.vols I2.few
    rw [hf2, hch2, hmem] at hg2
    have hn2 := gnow_rt g C2.f C2.ch I2.f4 I2.vols I2.few
    rw [hf2, hch2, show listM (after f []) = was from hlw] at hn2
    repeat (first | refine GD ?_ | refine NW fun _ => ?_)
    refine WL.guardT rfl rfl rfl rfl (OP.callRO rfl rfl (cgroup_ro p q g (a, n, c) C2) (Ent.at (up_crdA _ _ _ _ _) MM) rfl rfl ?_)
    repeat (first | refine GD ?_ | refine NW fun _ => ?_)
    refine WL.guardT rfl rfl rfl rfl (OP.callRT rfl rfl hg2 (hf2 ▸ hch2 ▸ crd_grp (C := C2) (p := p) (q := q) (fv := (a, n, c)) MM) rfl rfl ?_)
    rintro _ _ ⟨aV, cV, rfl, rfl⟩
    repeat (first | refine GD ?_ | refine NW fun _ => ?_)
    refine WL.guardT rfl rfl rfl rfl (OP.callRO rfl rfl (csame_ro aV aW was.length cV was.length cW was was rfl rfl (by omega)) (Ent.and (Ent.own (T := 3) (cap := cV) MM) (Ent.own (T := 3) (cap := cW) MM)) rfl rfl ?_)
    rw [decide_eq_true (rfl : was = was)]
    repeat (first | refine GD ?_ | refine NW fun _ => ?_)
    refine WL.step rfl (OP.callRO rfl rfl (cgroup_ro p q g (a, n, c) C2) (Ent.at (up_crdA _ _ _ _ _) MM) rfl rfl ?_)
    refine WL.step rfl (OP.callRT rfl rfl hn2 (hf2 ▸ hch2 ▸ crd_grp (C := C2) (p := p) (q := q) (fv := (a, n, c)) MM) rfl rfl ?_)
    rintro _ _ ⟨aN, cN, rfl, rfl⟩
    repeat (first | refine GD ?_ | refine NW fun _ => ?_)
    refine WC.loop (σ := Nat) (fun k => k ≤ (was).length)
      (fun k => [(0, .val (.slice a n c)), (1, .val (.int .i64 v)), (2, .val (.bool inn)), (4, .val (.int .u64 keep)), (11, .val (.pointer (some ⟨p, 0, none⟩))), (13, .val (.int .i64 i)), (17, .val (.slice aW was.length cW)), (18, .val (.bool (decide (v ∈ was)))), (20, .val (.iface 113 (.pointer (some ⟨y.1, 0, none⟩)))), (21, .val (.slice aN (was).length cN)), (22, .val (.bool (decide (v ∈ (was).take k)))), (104, .val (.int .i64 (was).length)), (105, .val (.int .i64 k))])
      (fun _ => [ownS aN was.length cN 3 1 (was.map vI), ownS aW was.length cW 3 1 (was.map vI), crdA p q g (a, n, c) C2, A]) (fun k => (was).length - k) 0 (Nat.zero_le _) ⟨rfl, rfl, rfl, rfl, rfl, rfl, rfl, rfl, rfl, rfl, rfl, rfl, rfl, trivial⟩ II ?_
    intro k hkL
    by_cases hlk : k < (was).length
    · have hsn := has_snoc (v := v) hlk
      refine WC.fact (Ent.some (Ent.own (a := aN) (n := (was).length) (cap := cN) (T := 3) (size := 1) (cs := (was).map vI) MM) (by omega)) ?_
      rintro ⟨bW, oW, rfl⟩
      by_cases h1 : v ∈ (was).take k
      · rw [decide_eq_true h1, Bool.true_or] at hsn
        have hz := congrArg (fun b => some (Slot.val (Value.bool b))) hsn.symm
        rw [decide_eq_true h1]
        repeat (first | refine GD ?_ | refine NW fun _ => ?_)
        exact ⟨k + 1, by omega, by omega, ⟨rfl, rfl, rfl, rfl, rfl, rfl, rfl, rfl, rfl, rfl, hz, rfl, rfl, trivial⟩, Imp.refl _⟩
      · rw [decide_eq_false h1, Bool.false_or] at hsn
        rw [decide_eq_false h1]
        repeat (first | refine GD ?_ | refine NW fun _ => ?_)
        refine WL.guardT rfl rfl rfl rfl (OP.load1 (v := vI (was)[k]) rfl rfl rfl rfl (Ent.elem (i := k * 1) (Ent.own (T := 3) (n := (was).length) (cap := cN) MM) rfl (int_at hlk)) rfl rfl ?_)
        by_cases h2 : (was)[k] = v
        · rw [decide_eq_true h2] at hsn
          have hz := congrArg (fun b => some (Slot.val (Value.bool b))) hsn.symm
          repeat (first | refine GD ?_ | refine NW fun _ => ?_)
          exact ⟨k + 1, by omega, by omega, ⟨rfl, rfl, rfl, rfl, rfl, rfl, rfl, rfl, rfl, rfl, hz, rfl, rfl, trivial⟩, Imp.refl _⟩
        · rw [decide_eq_false h2] at hsn
          have hz := congrArg (fun b => some (Slot.val (Value.bool b))) hsn.symm
          repeat (first | refine GD ?_ | refine NW fun _ => ?_)
          exact ⟨k + 1, by omega, by omega, ⟨rfl, rfl, rfl, rfl, rfl, rfl, rfl, rfl, rfl, rfl, hz, rfl, rfl, trivial⟩, Imp.refl _⟩
    have hkk : k = (was).length := by omega
    subst hkk
    rw [List.take_length]
    by_cases h0 : v < 0
    · repeat (first | refine GD ?_ | refine NW fun _ => ?_)
      refine WL.guardT rfl rfl rfl rfl (OP.callRO rfl rfl (csame_ro aN aW was.length cN was.length cW was was rfl rfl (by omega)) (Ent.and (Ent.own (T := 3) (cap := cN) MM) (Ent.own (T := 3) (cap := cW) MM)) rfl rfl ?_)
      rw [decide_eq_true (rfl : was = was)]
      repeat (first | refine GD ?_ | refine NW fun _ => ?_)
      exact ret1 rfl ⟨rfl, MM⟩
    by_cases h3 : 3 < v
    · repeat (first | refine GD ?_ | refine NW fun _ => ?_)
      refine WL.guardT rfl rfl rfl rfl (OP.callRO rfl rfl (csame_ro aN aW was.length cN was.length cW was was rfl rfl (by omega)) (Ent.and (Ent.own (T := 3) (cap := cN) MM) (Ent.own (T := 3) (cap := cW) MM)) rfl rfl ?_)
      rw [decide_eq_true (rfl : was = was)]
      repeat (first | refine GD ?_ | refine NW fun _ => ?_)
      exact ret1 rfl ⟨rfl, MM⟩
    have hd : decide (v ∈ was) = inn := hbad.resolve_left (fun h => h (by omega))
    rw [hd]
    cases inn with
    | true =>
      repeat (first | refine GD ?_ | refine NW fun _ => ?_)
      refine WL.guardT rfl rfl rfl rfl (OP.callRO rfl rfl (csame_ro aN aW was.length cN was.length cW was was rfl rfl (by omega)) (Ent.and (Ent.own (T := 3) (cap := cN) MM) (Ent.own (T := 3) (cap := cW) MM)) rfl rfl ?_)
      rw [decide_eq_true (rfl : was = was)]
      repeat (first | refine GD ?_ | refine NW fun _ => ?_)
      exact ret1 rfl ⟨rfl, MM⟩
    | false =>
      repeat (first | refine GD ?_ | refine NW fun _ => ?_)
      refine WL.guardT rfl rfl rfl rfl (OP.callRO rfl rfl (csame_ro aN aW was.length cN was.length cW was was rfl rfl (by omega)) (Ent.and (Ent.own (T := 3) (cap := cN) MM) (Ent.own (T := 3) (cap := cW) MM)) rfl rfl ?_)
      rw [decide_eq_true (rfl : was = was)]
      repeat (first | refine GD ?_ | refine NW fun _ => ?_)
      exact ret1 rfl ⟨rfl, MM⟩
  · have hrg : 0 ≤ v ∧ v < 4 := Decidable.not_not.1 fun h => hbad (.inl h)
    have hne : ¬ decide (v ∈ was) = inn := fun h => hbad (.inr h)
    have hmv := mem_listV hf4 hrg
    rw [hlw] at hmv
    have hfv : f.getD v.toNat false = !inn := by
      have hmv2 : f.getD v.toNat false = decide (v ∈ was) := by
        by_cases hvm : v ∈ was
        · rw [hmv.1 hvm, decide_eq_true hvm]
        · rw [decide_eq_false hvm]
          cases hg : f.getD v.toNat false with
          | false => rfl
          | true => exact absurd (hmv.2 hg) hvm
      rw [hmv2]
      cases hx : decide (v ∈ was) <;> cases inn <;> simp_all
    have hpn : putM C.f C.ch (C.last + 1, v, !inn) = none := by rw [hpm, if_neg (not_not_intro hrg), if_neg (not_not_intro hfv)]
    have hwd : decide (v ∈ was) = !inn := by
      cases hx : decide (v ∈ was) <;> cases inn <;> simp_all
    have hrt := I.right (by omega) (show C.J.held.length ≠ C.J.ring by omega) (r := chgR v inn) (.inr ⟨rfl, by show 0 ≤ v ∧ v < 8; omega, by cases inn; exact (by decide : minusB.size ≤ 16); exact (by decide : plusB.size ≤ 16), rfl⟩)
    rw [hpn, hrt] at hcdef
    dsimp only at hcdef
    obtain ⟨I1, hl1, hf1, _, _, _, hch1, hr1, hh1⟩ := I.change (by omega) hcdef
    rw [hcdef] at hcg
    generalize hC1 : (⟨⟨C.J.ring, C.J.hd, C.J.held ++ [(C.J.hd.gen, setSeq (chgR v inn) C.J.next)]⟩, (C.D.put (posM C.J.ring C.J.next) (sectorM (bodyM C.J.hd.gen (setSeq (chgR v inn) C.J.next)))).flush, C.f, C.ch ++ [(C.last + 1, v, !inn)], C.R, C.last, C.marked⟩ : Crd) = C1 at *
    have hcr := ccrash_ok p q g (a, n, c) C1 _ I1 (by omega) keep hk A hu fl hA (show n < 1000000 by omega) (by rw [hf1, hf]; exact hnw)
    repeat (first | refine GD ?_ | refine NW fun _ => ?_)
    refine WL.step rfl (OP.call (pre := [crdA p q g _ C, dsk q C.D]) rfl rfl hcg PS rfl rfl ?_)
    rintro _ _ ⟨rfl, rfl⟩
    repeat (first | refine GD ?_ | refine NW fun _ => ?_)
    refine WL.step rfl (OP.call (pre := [crdA p q g _ C1, dsk q C1.D, A]) rfl rfl hcr PS rfl rfl ?_)
    rintro _ _ ⟨rfl, J', D', _, er, eh, _, I2, rfl⟩
    generalize hC2 : ({ C1 with J := J', D := D', R := rnd0, marked := 0 } : Crd) = C2 at *
    have hf2 : C2.f = f := by rw [← hC2]; exact hf1.trans hf
    have hch2 : C2.ch = [((i : Int) + 1, v, !inn)] := by rw [← hC2]; show C1.ch = _; rw [hch1, hch, hl]; rfl
    have hg2 := gat_rt g C2.f C2.ch i I2.f4 I2.vols I2.few
    have hst2 : listM (atM i C2.f C2.ch) = was := by
      rw [hf2, hch2, ← List.nil_append [((i : Int) + 1, v, !inn)], atM_low (.inl (by dsimp only; omega)), hmem]
    rw [hst2] at hg2
    have hn2 := gnow_rt g C2.f C2.ch I2.f4 I2.vols I2.few
    have hls := glast_ro g C2.f C2.ch I2.f4 I2.few
    rw [hch2, show lastM [((i : Int) + 1, v, !inn)] = (i : Int) + 1 from rfl] at hls
    have haf : after C2.f C2.ch = f.set v.toNat inn := by
      rw [hf2, hch2]
      show f.set v.toNat (!(!inn)) = _
      rw [Bool.not_not]
    rw [haf] at hn2
    have hnowv : decide (v ∈ listM (f.set v.toNat inn)) = inn := by
      have := mem_listV (f := f.set v.toNat inn) (by rw [List.length_set]; exact hf4) hrg
      have hg : (f.set v.toNat inn).getD v.toNat false = inn := by
        rw [List.getD_eq_getElem?_getD, List.getElem?_set_self (by omega)]; rfl
      rw [hg] at this
      cases inn with
      | true => exact decide_eq_true (this.2 rfl)
      | false => exact decide_eq_false fun h => Bool.noConfusion (this.1 h)
    have hnl : (listM (f.set v.toNat inn)).length ≤ 4 := by have := listM_len (f.set v.toNat inn); rw [List.length_set] at this; omega
    generalize listM (f.set v.toNat inn) = now at *
    repeat (first | refine GD ?_ | refine NW fun _ => ?_)
    refine WL.guardT rfl rfl rfl rfl (OP.callRO rfl rfl (cgroup_ro p q g (a, n, c) C2) (Ent.at (up_crdA _ _ _ _ _) MM) rfl rfl ?_)
    repeat (first | refine GD ?_ | refine NW fun _ => ?_)
    refine WL.guardT rfl rfl rfl rfl (OP.callRT rfl rfl hg2 (crd_grp (C := C2) (p := p) (q := q) (fv := (a, n, c)) MM) rfl rfl ?_)
    rintro _ _ ⟨aV, cV, rfl, rfl⟩
    repeat (first | refine GD ?_ | refine NW fun _ => ?_)
    refine WL.guardT rfl rfl rfl rfl (OP.callRO rfl rfl (csame_ro aV aW was.length cV was.length cW was was rfl rfl (by omega)) (Ent.and (Ent.own (T := 3) (cap := cV) MM) (Ent.own (T := 3) (cap := cW) MM)) rfl rfl ?_)
    rw [decide_eq_true (rfl : was = was)]
    repeat (first | refine GD ?_ | refine NW fun _ => ?_)
    refine WL.step rfl (OP.callRO rfl rfl (cgroup_ro p q g (a, n, c) C2) (Ent.at (up_crdA _ _ _ _ _) MM) rfl rfl ?_)
    refine WL.step rfl (OP.callRT rfl rfl hn2 (crd_grp (C := C2) (p := p) (q := q) (fv := (a, n, c)) MM) rfl rfl ?_)
    rintro _ _ ⟨aN, cN, rfl, rfl⟩
    repeat (first | refine GD ?_ | refine NW fun _ => ?_)
    refine WC.loop (σ := Nat) (fun k => k ≤ (now).length)
      (fun k => [(0, .val (.slice a n c)), (1, .val (.int .i64 v)), (2, .val (.bool inn)), (4, .val (.int .u64 keep)), (11, .val (.pointer (some ⟨p, 0, none⟩))), (13, .val (.int .i64 i)), (17, .val (.slice aW was.length cW)), (18, .val (.bool (decide (v ∈ was)))), (20, .val .nilIface), (21, .val (.slice aN (now).length cN)), (22, .val (.bool (decide (v ∈ (now).take k)))), (104, .val (.int .i64 (now).length)), (105, .val (.int .i64 k))])
      (fun _ => [ownS aN now.length cN 3 1 (now.map vI), ownS aW was.length cW 3 1 (was.map vI), crdA p q g (a, n, c) C2, A]) (fun k => (now).length - k) 0 (Nat.zero_le _) ⟨rfl, rfl, rfl, rfl, rfl, rfl, rfl, rfl, rfl, rfl, rfl, rfl, rfl, trivial⟩ II ?_
    intro k hkL
    by_cases hlk : k < (now).length
    · have hsn := has_snoc (v := v) hlk
      refine WC.fact (Ent.some (Ent.own (a := aN) (n := (now).length) (cap := cN) (T := 3) (size := 1) (cs := (now).map vI) MM) (by omega)) ?_
      rintro ⟨bW, oW, rfl⟩
      by_cases h1 : v ∈ (now).take k
      · rw [decide_eq_true h1, Bool.true_or] at hsn
        have hz := congrArg (fun b => some (Slot.val (Value.bool b))) hsn.symm
        rw [decide_eq_true h1]
        repeat (first | refine GD ?_ | refine NW fun _ => ?_)
        exact ⟨k + 1, by omega, by omega, ⟨rfl, rfl, rfl, rfl, rfl, rfl, rfl, rfl, rfl, rfl, hz, rfl, rfl, trivial⟩, Imp.refl _⟩
      · rw [decide_eq_false h1, Bool.false_or] at hsn
        rw [decide_eq_false h1]
        repeat (first | refine GD ?_ | refine NW fun _ => ?_)
        refine WL.guardT rfl rfl rfl rfl (OP.load1 (v := vI (now)[k]) rfl rfl rfl rfl (Ent.elem (i := k * 1) (Ent.own (T := 3) (n := (now).length) (cap := cN) MM) rfl (int_at hlk)) rfl rfl ?_)
        by_cases h2 : (now)[k] = v
        · rw [decide_eq_true h2] at hsn
          have hz := congrArg (fun b => some (Slot.val (Value.bool b))) hsn.symm
          repeat (first | refine GD ?_ | refine NW fun _ => ?_)
          exact ⟨k + 1, by omega, by omega, ⟨rfl, rfl, rfl, rfl, rfl, rfl, rfl, rfl, rfl, rfl, hz, rfl, rfl, trivial⟩, Imp.refl _⟩
        · rw [decide_eq_false h2] at hsn
          have hz := congrArg (fun b => some (Slot.val (Value.bool b))) hsn.symm
          repeat (first | refine GD ?_ | refine NW fun _ => ?_)
          exact ⟨k + 1, by omega, by omega, ⟨rfl, rfl, rfl, rfl, rfl, rfl, rfl, rfl, rfl, rfl, hz, rfl, rfl, trivial⟩, Imp.refl _⟩
    have hkk : k = (now).length := by omega
    subst hkk
    rw [List.take_length]
    rw [hnowv, hwd]
    cases inn with
    | true =>
      repeat (first | refine GD ?_ | refine NW fun _ => ?_)
      refine WL.guardT rfl rfl rfl rfl (OP.callRO rfl rfl (cgroup_ro p q g (a, n, c) C2) (Ent.at (up_crdA _ _ _ _ _) MM) rfl rfl ?_)
      refine WL.guardT rfl rfl rfl rfl (OP.callRO rfl rfl hls (hch2 ▸ crd_grp (C := C2) (p := p) (q := q) (fv := (a, n, c)) MM) rfl rfl ?_)
      repeat (first | refine GD ?_ | refine NW fun _ => ?_)
      exact ret1 rfl ⟨rfl, MM⟩
    | false =>
      repeat (first | refine GD ?_ | refine NW fun _ => ?_)
      refine WL.guardT rfl rfl rfl rfl (OP.callRO rfl rfl (cgroup_ro p q g (a, n, c) C2) (Ent.at (up_crdA _ _ _ _ _) MM) rfl rfl ?_)
      refine WL.guardT rfl rfl rfl rfl (OP.callRO rfl rfl hls (hch2 ▸ crd_grp (C := C2) (p := p) (q := q) (fv := (a, n, c)) MM) rfl rfl ?_)
      repeat (first | refine GD ?_ | refine NW fun _ => ?_)
      exact ret1 rfl ⟨rfl, MM⟩
end Go.Proofs.Ytacgheafbkfciaa
namespace Go.Proofs.Ytacgheafbkfciaa
open Go Go.GL Go.ChangeShapes Go.WideShapes Go.ChangeAt Go.RowKit
open Go.ChangeMaps (open_string shut_string)
set_option linter.unusedVariables false

theorem ownCoordChanges : ownKnob Try.prog.godebug = none := by kernel_rfl
theorem laidOutCoordChanges : laidOutB Try.prog = true := by kernel_rfl
set_option maxRecDepth 100000 in
theorem liftedCoordChanges (os : Os) (started : os.Started) (H : Type) (enc : TypeId × Value → H) :
    ReturnsInHanded {} Try.checked os 7 .any (Rows.coordChangesSpec.pre6 enc Try.prog Try.f7 Rows.coordChangesRow.domain false) (Rows.coordChangesSpec.post enc Try.prog Try.f7 false true false false) := by
  refine returnsInHanded_of_change (C := Try.checked) ownCoordChanges started (by kernel_rfl) Try.func7
    (ChangeSpec.witness6 (enc := enc) (C := Try.checked) false ⟨#[], #[.slice none 0 0, .int .i64 0, .bool false, .int .u8 0, .int .u64 0], []⟩ 8 (by kernel_rfl) (by kernel_rfl) (by kernel_rfl) (by kernel_rfl)) ?_
  intro W base args ds gs before hval0 hW hcnd _
  have hval : ∀ (j : Nat) t v, Try.f7.params[j]? = some t → args[j]? = some v → Value.okWide Try.prog W .any base t v := hval0
  have hW' := hW
  obtain ⟨p, q, hA0, hV, rfl, hfz, hnd⟩ := hW
  have hA : DataW.TrodAll enc Try.prog W 0 (fun _ => true) true Try.f7.params.toList args.toList ds p := hA0
  rw [Try.params7] at hA hval
  obtain ⟨v0, vs0, d0, ds0, p0, q0, hargs, rfl, rfl, h0, r0⟩ := trodAll_cons hA
  obtain ⟨v1, vs1, d1, ds1, p1, q1, rfl, rfl, rfl, h1, r1⟩ := trodAll_cons r0
  obtain ⟨v2, vs2, d2, ds2, p2, q2, rfl, rfl, rfl, h2, r2⟩ := trodAll_cons r1
  obtain ⟨v3, vs3, d3, ds3, p3, q3, rfl, rfl, rfl, h3, r3⟩ := trodAll_cons r2
  obtain ⟨v4, vs4, d4, ds4, p4, q4, rfl, rfl, rfl, h4, r4⟩ := trodAll_cons r3
  obtain ⟨rfl, rfl, rfl⟩ := trodAll_nil r4
  obtain rfl : args = #[v0, v1, v2, v3, v4] := by cases args; simp_all
  obtain ⟨rfl, rfl⟩ := trodVars_none hV
  have k0 := h0
  obtain ⟨a0, len0, cap0, rw0, rfl, hr0, hc0, hm0, ho0, R0⟩ := open_row (n := 4) (l := [.int .i64]) Try.underlying23 (by kernel_rfl) (by kernel_rfl) (hval 0 23 v0 rfl rfl) h0
  obtain ⟨l0, hl0, hn0, w0⟩ := rows_ints ho0
  rw [hl0] at R0
  rw [hr0] at hn0
  have k1 := h1
  obtain ⟨a1, rfl, _, _, w1⟩ := open_int Try.underlying3 (hval 1 3 v1 rfl rfl) h1
  have k2 := h2
  obtain ⟨a2, rfl, _, _⟩ := open_bool Try.underlying4 (hval 2 4 v2 rfl rfl) h2
  have k3 := h3
  obtain ⟨a3, rfl, _, _, w3⟩ := open_int Try.underlying5 (hval 3 5 v3 rfl rfl) h3
  have k4 := h4
  obtain ⟨a4, rfl, _, _, w4⟩ := open_int Try.underlying44 (hval 4 44 v4 rfl rfl) h4
  clear hA0 hval0
  refine ((cchanges_ro a0 len0 cap0 l0 a1 a2 a3 a4 hn0.symm (wf_u8 w3) (by have := wf_u64 w4; omega)).calls W R0).mono fun e W' ⟨he, ext⟩ => ?_
  subst he
  exact ⟨_, rfl, _, _, _, [], _, [], hW', trodAll_mk1 (shut_bool Try.underlying4 _), (trodAll_cons_mk (GL.Ext.trod laidOutCoordChanges (by kernel_rfl) (of_decide_eq_true (by kernel_rfl)) k0 ext) (trodAll_cons_mk (GL.Ext.trod laidOutCoordChanges (by kernel_rfl) (of_decide_eq_true (by kernel_rfl)) k1 ext) (trodAll_cons_mk (GL.Ext.trod laidOutCoordChanges (by kernel_rfl) (of_decide_eq_true (by kernel_rfl)) k2 ext) (trodAll_cons_mk (GL.Ext.trod laidOutCoordChanges (by kernel_rfl) (of_decide_eq_true (by kernel_rfl)) k3 ext) (trodAll_cons_mk (GL.Ext.trod laidOutCoordChanges (by kernel_rfl) (of_decide_eq_true (by kernel_rfl)) k4 ext) trodAll_mk0))))), rfl, ext.keptBut _, fun h => by cases h⟩
theorem overCoordChanges : Rows.coordChangesRow.holds Try.pinned (OpenSpec.ofChange Rows.coordChangesSpec) :=
  OpenClaim.holds_of_wide 7 Try.f7 rfl rfl rfl rfl rfl rfl rfl ⟨rfl, rfl, rfl, rfl, rfl⟩ rfl rfl rfl rfl rfl (by kernel_rfl) Try.func7 (by kernel_rfl)
    (of_decide_eq_true (by kernel_rfl)) (by unfold Func.isWrapper; first | (rw [if_pos (by decide +kernel)]; kernel_rfl) | (rw [if_neg (by decide +kernel)]; exact ⟨rfl, rfl⟩))
    (fun os started H enc _ => liftedCoordChanges os started H enc)
theorem coordChanges_holds : Rows.CoordChangesSaid := overCoordChanges
end Go.Proofs.Ytacgheafbkfciaa
