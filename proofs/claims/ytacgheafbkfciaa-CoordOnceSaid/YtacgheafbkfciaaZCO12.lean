/- Contracts of functions of the given program, and plain laws: parts of the proofs of laws. -/
import Derived.Test.YtacgheafbkfciaaZCO4
import Derived.Test.YtacgheafbkfciaaZCO11
import Derived.Test.YtacgheafbkfciaaZCO3
/- Contracts of functions of the given program, and plain laws on what they compute: parts of the proofs of laws. -/

namespace Go.Proofs.Ytacgheafbkfciaa
open Go Go.GL

set_option maxHeartbeats 4000000 in
set_option maxRecDepth 10000 in
/-- the journal can't be opened -/
theorem cstart_er (p q g : Nat) (R0 : Rnd) (x0 : RHd) (l0 m0 : Int) (ring : Int) (jv : Value) (fv : Fst) (D : Dsk) (hD : D.ok) (hw : D.W.length < 10000) (hr64 : -9223372036854775808 ≤ ring ∧ ring ≤ 9223372036854775807) {c : Int} (ho : openM D ring = .error c) :
    Triple G 37 [.pointer (some ⟨p, 0, none⟩)] [blk p (rndC R0 x0 ++ restC l0 m0 q ring jv fv g) ndT, dsk q D]
      (fun v M => ∃ E, IsEr (some ([(jrnT, ring)], c)) v E ∧ M = E) := by
  refine Triple.enter Try.func37 rfl (by decide) rfl Try.ntmps37 rfl (fun F => ?_)
  have hop := jopen_ok q D ring hD hw hr64
  unfold OpenJ at hop
  rw [ho] at hop
  unfold rndC restC
  dsimp only [List.cons_append, List.nil_append]
  repeat (first | refine GD ?_ | refine NW fun _ => ?_)
  refine RD 8 14 (_) ?_
  refine WP 0 ?_
  refine WP 1 ?_
  refine WP 2 ?_
  refine VV 3 ?_
  refine WP 4 ?_
  refine WP 5 ?_
  refine WP 6 ?_
  refine VV 7 ?_
  refine WH.only 8 rfl rfl (by kernel_rfl) rfl (OP.call (pre := [dsk q D]) rfl rfl hop PS rfl rfl (fun v M hM => ?_))
  obtain ⟨e, E, hE, rfl, rfl⟩ := hM
  refine ⟨(fun h => nomatch h), ?_⟩
  refine WP 9 ?_
  refine WP 10 ?_
  refine WP 11 ?_
  refine WP 12 ?_
  refine WP 13 ?_
  refine DN ?_
  obtain ⟨ch, hc1, rfl, rfl⟩ := hE
  cases ch with
  | nil => cases hc1
  | cons y ch =>
  dsimp only [valOf]
  repeat (first | refine GD ?_ | refine NW fun _ => ?_)
  refine ret1 rfl ⟨_, ⟨_, ⟨y :: ch, hc1, rfl, rfl⟩, rfl⟩, II⟩
theorem newM_ne0 {l : List Int} {v c : Int} (h : newM l f0 = .error (v, c)) : c ≠ 0 := by
  rcases newM_code h with h | h <;> omega
def OpenCo (q : Nat) (fv : Fst) (V : Assn) (D : Dsk) (ring : Int) (fl : List Int) (v : Value) (M : List Assn) : Prop := match openC D ring fl with
  | .ok C => ∃ p g, v = .tuple #[.pointer (some ⟨p, 0, none⟩), .nilIface] ∧ M = [crdA p q g fv C, dsk q C.D, V]
  | .error (l, c) => ∃ e E, IsEr (some (l, c)) e E ∧ v = .tuple #[.pointer none, e] ∧ M = E ++ [V]
theorem isEr_one {l : List (ByteArray × Int)} {c : Int} {v : Value} {E : List Assn} (h : IsEr (some (l, c)) v E) (hl : l ≠ []) : ∃ y ch, ((y :: ch : Chain).map Prod.snd = l) ∧ v = .iface 113 (.pointer (some ⟨y.1, 0, none⟩)) ∧ E = [chainR (y :: ch) c] := by
  obtain ⟨ch, h1, h2, h3⟩ := h
  cases ch with
  | nil => exact absurd h1.symm hl
  | cons y ch => exact ⟨y, ch, h1, h2, h3⟩
set_option maxHeartbeats 8000000 in
set_option maxRecDepth 10000 in
theorem copen_ok (q : Nat) (ring : Int) (fv : Fst) (D : Dsk) (V : Assn) (hV : Up V) (fl : List Int) (hr : ∀ h, V h → readS fv.1 fv.2.1 1 (fl.map vI) h) (hn : fv.2.1 < 1000000) (hD : D.ok) (hw : D.W.length < 10000) (hr64 : -9223372036854775808 ≤ ring ∧ ring ≤ 9223372036854775807)
    (hJ : ∀ J D', openM D ring = .ok (J, D') → J.rng ∧ ∀ x ∈ J.held, RightR x.2) :
    Triple G 18 [.pointer (some ⟨q, 0, none⟩), .int .i64 ring, .slice fv.1 fv.2.1 fv.2.2] [dsk q D, V] (OpenCo q fv V D ring fl) := by
  refine Triple.enter Try.func18 rfl (by decide) rfl Try.ntmps18 rfl (fun F => ?_)
  have hE : ∀ {L}, V ∈ L → Ent L (readS fv.1 fv.2.1 1 (fl.map vI)) := fun m => Ent.mem m hV hr
  have hnew := new_ok fv.1 fv.2.1 fv.2.2 fl hn
  have hdef : openC D ring fl = match newM fl f0 with
    | .error (v, c) => .error ([(coordT, 0), (memT, v)], c)
    | .ok f => match openM D ring with
      | .error c => .error ([(coordT, 0), (jrnT, ring)], c)
      | .ok (J, D') => .ok (startC f J D') := rfl
  repeat (first | refine GD ?_ | refine NW fun _ => ?_)
  refine WL.step rfl (OP.callRT rfl rfl hnew (hE MM) rfl rfl ?_)
  intro v E hN
  unfold NewPost at hN
  cases hnw : newM fl f0 with
  | error vc =>
    obtain ⟨bv, c⟩ := vc
    rw [hnw] at hdef
    dsimp only at hdef
    rw [show newM fl [false, false, false, false] = .error (bv, c) from hnw] at hN
    obtain ⟨e, rfl, hF⟩ := hN
    obtain ⟨M', hi, hm⟩ := hF.isEr
    obtain ⟨y, ch, hc1, rfl, rfl⟩ := isEr_one hi (by simp)
    have hwr := cwrong_ok 0 (y :: ch) c (fun h => nomatch h.1)
    dsimp only [valOf] at hwr
    refine WL.imp (Imp.app hm _) ?_
    repeat (first | refine GD ?_ | refine NW fun _ => ?_)
    refine WL.step rfl (OP.call (pre := [chainR (y :: ch) c]) rfl rfl hwr PS rfl rfl ?_)
    intro v M hM
    rw [hc1] at hM
    repeat (first | refine GD ?_ | refine NW fun _ => ?_)
    refine ret2 rfl rfl ⟨M ++ [V], ?_, ?_⟩
    · unfold OpenCo
      rw [hdef]
      exact ⟨v, M, hM, rfl, rfl⟩
    · rw [List.append_assoc]
      exact Imp.appL II _
  | ok f =>
    rw [hnw] at hdef
    dsimp only at hdef
    rw [show newM fl [false, false, false, false] = .ok f from hnw] at hN
    obtain ⟨g, rfl, rfl⟩ := hN
    have hf4 : f.length = 4 := newM_length hnw
    repeat (first | refine GD ?_ | refine NW fun _ => ?_)
    rename_i p
    cases ho : openM D ring with
    | error c =>
      rw [ho] at hdef
      dsimp only at hdef
      have hst := cstart_er p q g rnd0 (none, 0, none) 0 0 ring (.pointer none) fv D hD hw hr64 ho
      unfold rndC restC at hst
      dsimp only [List.cons_append, List.nil_append] at hst
      refine WL.step rfl (OP.call (pre := [blk p _ ndT, dsk q D]) rfl rfl hst PS rfl rfl ?_)
      rintro v _ ⟨E, hEr, rfl⟩
      obtain ⟨y, ch, hc1, rfl, rfl⟩ := isEr_one hEr (by simp)
      have hwr := cwrong_ok 0 (y :: ch) c (fun h => nomatch h.1)
      dsimp only [valOf] at hwr
      repeat (first | refine GD ?_ | refine NW fun _ => ?_)
      refine WL.step rfl (OP.call (pre := [chainR (y :: ch) c]) rfl rfl hwr PS rfl rfl ?_)
      intro v M hM
      rw [hc1] at hM
      repeat (first | refine GD ?_ | refine NW fun _ => ?_)
      refine ret2 rfl rfl ⟨M ++ [V], ?_, ?_⟩
      · unfold OpenCo
        rw [hdef]
        exact ⟨v, M, hM, rfl, rfl⟩
      · rw [List.append_assoc]
        exact Imp.appL II _
    | ok y =>
      obtain ⟨J, D'⟩ := y
      rw [ho] at hdef
      dsimp only at hdef
      obtain ⟨j1, j2⟩ := hJ J D' ho
      have hst := cstart_ok p q g rnd0 (none, 0, none) 0 0 ring (.pointer none) fv f none 0 0 D V hV fl f hr hn hnw hf4 hD hw hr64 ho j1 j2
      unfold rndC restC at hst
      dsimp only [List.cons_append, List.nil_append] at hst
      refine WL.step rfl (OP.call (pre := [blk p _ ndT, blk g (bools f ++ [.slice none 0 0]) grT, dsk q D, V]) rfl rfl hst PS rfl rfl ?_)
      rintro _ _ ⟨rfl, rfl⟩
      repeat (first | refine GD ?_ | refine NW fun _ => ?_)
      refine ret2 rfl rfl ⟨[crdA p q g fv (startC f J D'), dsk q D', V], ?_, Imp.refl _⟩
      unfold OpenCo
      rw [hdef]
      exact ⟨p, g, rfl, rfl⟩
set_option maxHeartbeats 4000000 in
set_option maxRecDepth 10000 in
theorem ccrash_ok (p q g : Nat) (fv : Fst) (C : Crd) (B : Int) (I : CInv C B) (hB : B + 4 ≤ widest) (keep : Int) (hk : 0 ≤ keep ∧ keep < 18446744073709551616) (V : Assn) (hV : Up V) (fl : List Int) (hr : ∀ h, V h → readS fv.1 fv.2.1 1 (fl.map vI) h) (hn : fv.2.1 < 1000000) (hfl : newM fl f0 = .ok C.f) :
    Triple G 21 [.pointer (some ⟨p, 0, none⟩), .int .u64 keep] [crdA p q g fv C, dsk q C.D, V]
      (fun v M => v = .nilIface ∧ ∃ J' D', openM (C.D.crash keep) C.J.ring = .ok (J', D') ∧ J'.ring = C.J.ring ∧ J'.held = C.J.held ∧ startC C.f J' D' = { C with J := J', D := D', R := rnd0, marked := 0 } ∧ CInv { C with J := J', D := D', R := rnd0, marked := 0 } (B + 2) ∧ M = [crdA p q g fv { C with J := J', D := D', R := rnd0, marked := 0 }, dsk q D', V]) := by
  refine Triple.enter Try.func21 rfl (by decide) rfl Try.ntmps21 rfl (fun F => ?_)
  obtain ⟨J', D', ho, e1, e2, e3, I'⟩ := I.crash hB keep
  have hcw : (C.D.crash keep).W.length < 10000 := by show (0 : Nat) < 10000; decide
  have hring := I.J.ring
  have hst := fun x0 jv a0 n0 c0 => cstart_ok p q g C.R x0 C.last C.marked C.J.ring jv fv C.f a0 n0 c0 (C.D.crash keep) V hV fl C.f hr hn hfl I.f4 (Dsk.settle_ok I.J.dok _) hcw (by omega) ho (I'.J.rng (by omega)) I'.J.right
  have hdc := dcrash_ok q C.D keep hk I.J.dok (by rw [I.W]; decide)
  rw [e3] at hst I'
  refine WC.open (M := [dsk q C.D, V, F]) (Ls := crdL p q g fv C) II (fun j => ?_)
  unfold crdL
  dsimp only [List.cons_append, List.nil_append]
  refine WC.open (M := [jrn j q C.J, grp g C.f C.ch, dsk q C.D, V, F]) (Ls := rndL p ndT (restC C.last C.marked q C.J.ring (.pointer (some ⟨j, 0, none⟩)) fv g) C.R) II (fun x => ?_)
  refine WC.open (M := rndL p ndT (restC C.last C.marked q C.J.ring (.pointer (some ⟨j, 0, none⟩)) fv g) C.R x ++ [jrn j q C.J, dsk q C.D, V, F]) (Ls := fun x : Option Addr × Nat => grpL g x.1 C.ch.length x.2 C.f C.ch) (by unfold rndL; exact II) (fun y => ?_)
  have hst2 := hst x (.pointer (some ⟨j, 0, none⟩)) y.1 C.ch.length y.2
  unfold rndL grpL
  unfold rndC restC at *
  dsimp only [List.cons_append, List.nil_append] at *
  repeat (first | refine GD ?_ | refine NW fun _ => ?_)
  refine WL.step rfl (OP.call (pre := [dsk q C.D]) rfl rfl hdc PS rfl rfl ?_)
  rintro _ _ ⟨rfl, rfl⟩
  repeat (first | refine GD ?_ | refine NW fun _ => ?_)
  refine WL.step rfl (OP.call (pre := [blk p _ ndT, blk g (bools C.f ++ [.slice y.1 C.ch.length y.2]) grT, dsk q (C.D.crash keep), V]) rfl rfl hst2 PS rfl rfl ?_)
  rintro _ _ ⟨rfl, rfl⟩
  repeat (first | refine GD ?_ | refine NW fun _ => ?_)
  refine WL.step rfl (OP.callRO rfl rfl (cwrong_nil 0) (fun _ _ => trivial) rfl rfl ?_)
  repeat (first | refine GD ?_ | refine NW fun _ => ?_)
  exact ret1 rfl ⟨[crdA p q g fv { C with J := J', D := D', R := rnd0, marked := 0 }, dsk q D', V], ⟨rfl, J', D', ho, e1, e2, e3, I', rfl⟩, II⟩
end Go.Proofs.Ytacgheafbkfciaa
/- Contracts of functions of the given program, and plain laws on what they compute: parts of the proofs of laws. -/

namespace Go.Proofs.Ytacgheafbkfciaa
open Go Go.GL

set_option maxRecDepth 10000 in
theorem cwrong1_ok (at_ c : Int) (h : c ≠ 0) : Triple G 36 [.int .i64 at_, .iface 75 (.int .i64 c)] [] (IsEr (some ([(coordT, at_)], c))) := by
  refine Triple.enter Try.func36 rfl (by decide) rfl Try.ntmps36 rfl (fun F => ?_)
  repeat (first | refine GO ?_ | refine NW fun _ => ?_)
  refine WL.step rfl (OP.call (pre := []) rfl rfl (wrap_ok coordT at_ c h) PS rfl rfl ?_)
  intro v M hM
  obtain ⟨M', h1, h2⟩ := hM.isEr
  repeat (first | refine GO ?_ | refine NW fun _ => ?_)
  exact ret1 rfl ⟨M', h1, Imp.app h2 _⟩
theorem rnd_rest {p : Nat} {T : TypeId} {rest : List Value} {R : Rnd} {L : List Assn} (m : rnd p T rest R ∈ L) {i : Nat} {v : Value} (hv : rest[i]? = some v) : Ent L (cellAt p (9 + i) v) :=
  Ent.mem m (up_rnd _ _ _ _) fun h ⟨x, s⟩ => by
    have hc := (Ent.whole (b := p) (c := rndC R x ++ rest) (T := T) (List.Mem.head _)) h s
    have := cellsAt_one (i := 9 + i) hc (by
      rw [List.getElem?_append_right (by show 9 ≤ 9 + i; omega)]
      show rest[9 + i - 9]? = some v
      rw [show 9 + i - 9 = i by omega]; exact hv)
    rwa [Nat.zero_add] at this
/-- the cells of a round's block: opened, changed in the rest, and closed -/
theorem CInv.jr {C : Crd} {B : Int} (I : CInv C B) (hB : B + 4 ≤ widest) : C.J.rng := I.J.rng (by omega)
def BeginCo (p q g : Nat) (fv : Fst) (C : Crd) (v : Value) (M : List Assn) : Prop := match beginC C with
  | .ok ((n, l), C') => ∃ x E, CmdsA l x E ∧ v = .tuple #[.int .i64 n, x, .nilIface] ∧ M = E ++ [crdA p q g fv C', dsk q C'.D]
  | .error (l, c) => ∃ e E, IsEr (some (l, c)) e E ∧ v = .tuple #[.int .i64 0, .slice none 0 0, e] ∧ M = E ++ [crdA p q g fv C, dsk q C.D]
set_option maxHeartbeats 8000000 in
set_option maxRecDepth 10000 in
theorem cbegin_ok (p q g : Nat) (fv : Fst) (C : Crd) (B : Int) (I : CInv C B) (hB : B + 4 ≤ widest) :
    Triple G 20 [.pointer (some ⟨p, 0, none⟩)] [crdA p q g fv C, dsk q C.D] (BeginCo p q g fv C) := by
  refine Triple.enter Try.func20 rfl (by decide) rfl Try.ntmps20 rfl (fun F => ?_)
  have hdef : beginC C = if C.R.number ≠ 0 then .error ([(coordT, C.last + 1)], 9) else if C.mem (C.last + 1) = [] then .error ([(coordT, C.last + 1)], 8)
    else match appendM C.J C.D (markR (C.last + 1)) with
    | .error c => .error ((coordT, C.last + 1) :: appEr C.J c, c)
    | .ok (J', D') => .ok ((C.last + 1, (C.R.start (C.last + 1) (C.mem (C.last + 1))).1), { C with J := J', D := D'.flush, last := C.last + 1, R := (C.R.start (C.last + 1) (C.mem (C.last + 1))).2 }) := rfl
  have hnum := I.num
  have hlast := I.last
  have hww : widest = 1152921504606846975 := rfl
  refine WC.open (M := [dsk q C.D, F]) (Ls := crdL p q g fv C) II (fun j => ?_)
  unfold crdL
  dsimp only [List.cons_append, List.nil_append]
  have hdn := cdown_ro p C.R C.last C.marked q C.J.ring j fv g
  have hgt := gat_rt g C.f C.ch (C.last + 1) I.f4 I.vols I.few
  have hap := jappend_ok j q C.J C.D (markR (C.last + 1)) (I.jr hB) I.J.ring.2.2 (by rw [I.W]; decide) (by show (0 : Nat) < 1000000; decide)
  rw [show listM (atM (C.last + 1) C.f C.ch) = C.mem (C.last + 1) from rfl] at hgt
  have hm4 : (C.mem (C.last + 1)).length ≤ 4 := by
    have := listM_len (atM (C.last + 1) C.f C.ch)
    rw [atM_length, I.f4] at this
    exact this
  have hmr : C.mem (C.last + 1) ≠ [] → RightV (C.mem (C.last + 1)) := fun h => rightV_list (by rw [atM_length]; exact I.f4) h
  generalize hmem : C.mem (C.last + 1) = mm at *
  repeat (first | refine GD ?_ | refine NW fun _ => ?_)
  refine WL.step rfl (OP.callRO rfl rfl hdn (Ent.at (up_rnd _ _ _ _) MM) rfl rfl ?_)
  repeat (first | refine GD ?_ | refine NW fun _ => ?_)
  refine WL.step rfl (OP.load1 (v := .int .i64 C.last) rfl rfl rfl rfl (rnd_rest (i := 0) (R := C.R) (T := ndT) MM rfl) rfl rfl ?_)
  repeat (first | refine GD ?_ | refine NW fun _ => ?_)
  refine WL.step rfl (OP.load1 (v := .pointer (some ⟨g, 0, none⟩)) rfl rfl rfl rfl (rnd_rest (i := 6) (R := C.R) (T := ndT) MM rfl) rfl rfl ?_)
  repeat (first | refine GD ?_ | refine NW fun _ => ?_)
  refine WL.step rfl (OP.callRT rfl rfl hgt (Ent.at (up_grp _ _ _) MM) rfl rfl ?_)
  rintro _ _ ⟨aM, cM, rfl, rfl⟩
  repeat (first | refine GD ?_ | refine NW fun _ => ?_)
  refine WL.step rfl (OP.callRO rfl rfl (rnumber_ro p ndT _ C.R) (Ent.at (up_rnd _ _ _ _) MM) rfl rfl ?_)
  by_cases h0 : C.R.number ≠ 0
  · have hop : beginC C = .error ([(coordT, C.last + 1)], 9) := by rw [hdef, if_pos h0]
    repeat (first | refine GD ?_ | refine NW fun _ => ?_)
    refine WL.step rfl (OP.call (pre := []) rfl rfl (cwrong1_ok (C.last + 1) 9 (by decide)) PS rfl rfl ?_)
    intro v M hM
    repeat (first | refine GD ?_ | refine NW fun _ => ?_)
    refine ret3 rfl rfl rfl ⟨M ++ [crdA p q g fv C, dsk q C.D], ?_, ?_⟩
    · unfold BeginCo
      rw [hop]
      exact ⟨v, M, hM, rfl, rfl⟩
    · rw [List.append_assoc]
      refine Imp.appL ?_ _
      exact Imp.trans II (Imp.trans (crdFold p q g fv C j (N := [dsk q C.D, F])) II)
  rw [if_neg h0] at hdef
  have h0 : C.R.number = 0 := Decidable.not_not.1 h0
  by_cases h1 : mm = []
  · have hop : beginC C = .error ([(coordT, C.last + 1)], 8) := by rw [hdef, if_pos h1]
    have hl0 : mm.length = 0 := by rw [h1]; rfl
    repeat (first | refine GD ?_ | refine NW fun _ => ?_)
    refine WL.step rfl (OP.call (pre := []) rfl rfl (cwrong1_ok (C.last + 1) 8 (by decide)) PS rfl rfl ?_)
    intro v M hM
    repeat (first | refine GD ?_ | refine NW fun _ => ?_)
    refine ret3 rfl rfl rfl ⟨M ++ [crdA p q g fv C, dsk q C.D], ?_, ?_⟩
    · unfold BeginCo
      rw [hop]
      exact ⟨v, M, hM, rfl, rfl⟩
    · rw [List.append_assoc]
      refine Imp.appL ?_ _
      exact Imp.trans II (Imp.trans (crdFold p q g fv C j (N := [dsk q C.D, F])) II)
  rw [if_neg h1] at hdef
  have hl1 : 0 < mm.length := List.length_pos_iff.2 h1
  have hrb := I.R.begin h0 (hmr h1)
  repeat (first | refine GD ?_ | refine NW fun _ => ?_)
  refine WL.step rfl (OP.load1 (v := .pointer (some ⟨j, 0, none⟩)) rfl rfl rfl rfl (rnd_rest (i := 4) (R := C.R) (T := ndT) MM rfl) rfl rfl ?_)
  repeat (first | refine GD ?_ | refine NW fun _ => ?_)
  unfold AppJ at hap
  cases happ : appendM C.J C.D (markR (C.last + 1)) with
  | error c =>
    rw [happ] at hap hdef
    dsimp only at hap hdef
    refine WL.step rfl (OP.call (pre := [jrn j q C.J, dsk q C.D]) rfl rfl hap PS rfl rfl ?_)
    rintro v M ⟨e, E, hEr, rfl, rfl⟩
    obtain ⟨y, ch, hc1, rfl, rfl⟩ := isEr_one hEr (by unfold appEr; split <;> simp)
    have hwr := cwrong_ok (C.last + 1) (y :: ch) c (fun h => nomatch h.1)
    dsimp only [valOf] at hwr
    repeat (first | refine GD ?_ | refine NW fun _ => ?_)
    refine WL.step rfl (OP.call (pre := [chainR (y :: ch) c]) rfl rfl hwr PS rfl rfl ?_)
    intro v M hM
    rw [hc1] at hM
    repeat (first | refine GD ?_ | refine NW fun _ => ?_)
    refine ret3 rfl rfl rfl ⟨M ++ [crdA p q g fv C, dsk q C.D], ?_, ?_⟩
    · unfold BeginCo
      rw [hdef]
      exact ⟨v, M, hM, rfl, rfl⟩
    · rw [List.append_assoc]
      refine Imp.appL ?_ _
      exact Imp.trans II (Imp.trans (crdFold p q g fv C j (N := [dsk q C.D, F])) II)
  | ok y =>
    obtain ⟨J', D'⟩ := y
    rw [happ] at hap hdef
    dsimp only at hap hdef
    obtain ⟨Ja, _, er, _⟩ := I.J.append happ
    refine WL.step rfl (OP.call (pre := [jrn j q C.J, dsk q C.D]) rfl rfl hap PS rfl rfl ?_)
    rintro _ _ ⟨rfl, rfl⟩
    repeat (first | refine GD ?_ | refine NW fun _ => ?_)
    refine WL.step rfl (OP.load1 (v := .pointer (some ⟨j, 0, none⟩)) rfl rfl rfl rfl (rnd_rest (i := 4) (R := C.R) (T := ndT) MM rfl) rfl rfl ?_)
    repeat (first | refine GD ?_ | refine NW fun _ => ?_)
    refine WL.step rfl (OP.call (pre := [jrn j q J', dsk q D']) rfl rfl (jflush_ok j q J' D' Ja.dok Ja.few) PS rfl rfl ?_)
    rintro _ _ ⟨rfl, rfl⟩
    refine WL.open (M := [jrn j q J', dsk q D'.flush, ownS aM mm.length cM 3 1 (mm.map vI), grp g C.f C.ch, F]) (Ls := rndL p ndT (restC C.last C.marked q C.J.ring (.pointer (some ⟨j, 0, none⟩)) fv g) C.R) II (fun x => ?_)
    have hback := fun (l : Int) (N : List Assn) => rndFold p ndT (restC l C.marked q C.J.ring (.pointer (some ⟨j, 0, none⟩)) fv g) C.R x (N := N)
    have hrr := rbegin_ok p ndT (restC (C.last + 1) C.marked q C.J.ring (.pointer (some ⟨j, 0, none⟩)) fv g) C.R (C.last + 1) aM mm.length cM mm (ownS aM mm.length cM 3 1 (mm.map vI)) (up_ownS _ _ _ _ _ _) (fun _ h => read_of_own h) rfl (by omega)
    unfold RBegin at hrr
    rw [hrb] at hrr
    unfold rndL
    unfold rndC restC
    dsimp only [List.cons_append, List.nil_append]
    repeat (first | refine GD ?_ | refine NW fun _ => ?_)
    refine WL.imp (M := [rnd p ndT (restC (C.last + 1) C.marked q C.J.ring (.pointer (some ⟨j, 0, none⟩)) fv g) C.R, ownS aM mm.length cM 3 1 (mm.map vI), jrn j q J', dsk q D'.flush, grp g C.f C.ch, F]) (Imp.trans II (Imp.trans (hback (C.last + 1) [ownS aM mm.length cM 3 1 (mm.map vI), jrn j q J', dsk q D'.flush, grp g C.f C.ch, F]) (Imp.refl _))) ?_
    generalize C.R.start (C.last + 1) mm = st at *
    obtain ⟨cs, R'⟩ := st
    dsimp only at hrr hdef
    refine WL.step rfl (OP.call (pre := [rnd p ndT (restC (C.last + 1) C.marked q C.J.ring (.pointer (some ⟨j, 0, none⟩)) fv g) C.R, ownS aM mm.length cM 3 1 (mm.map vI)]) rfl rfl hrr PS rfl rfl ?_)
    rintro _ _ ⟨_, ⟨x2, E, hC, rfl, rfl⟩, rfl⟩
    repeat (first | refine GD ?_ | refine NW fun _ => ?_)
    refine WL.step rfl (OP.callRO rfl rfl (cwrong_nil (C.last + 1)) (fun _ _ => trivial) rfl rfl ?_)
    repeat (first | refine GD ?_ | refine NW fun _ => ?_)
    refine ret3 rfl rfl rfl ⟨E ++ [crdA p q g fv { C with J := J', D := D'.flush, last := C.last + 1, R := R' }, dsk q D'.flush], ?_, ?_⟩
    · unfold BeginCo
      rw [hdef]
      exact ⟨x2, E, hC, rfl, rfl⟩
    · rw [List.append_assoc, List.append_assoc, List.append_assoc]
      refine Imp.appL ?_ _
      have hf := crdFold p q g fv { C with J := J', D := D'.flush, last := C.last + 1, R := R' } j (N := [dsk q D'.flush, F])
      dsimp only at hf
      rw [er] at hf
      exact Imp.trans II (Imp.trans hf II)
end Go.Proofs.Ytacgheafbkfciaa
/- Contracts of functions of the given program, and plain laws on what they compute: parts of the proofs of laws. -/

namespace Go.Proofs.Ytacgheafbkfciaa
open Go Go.GL

def AnswerCo (p q g : Nat) (fv : Fst) (C : Crd) (c : Cmd) (v : Value) (M : List Assn) : Prop := match answerC C c with
  | .ok (l, C') => ∃ x E, CmdsA l x E ∧ v = .tuple #[x, .nilIface] ∧ M = E ++ [crdA p q g fv C', dsk q C'.D]
  | .error (l, c) => ∃ e E, IsEr (some (l, c)) e E ∧ v = .tuple #[.slice none 0 0, e] ∧ M = E ++ [crdA p q g fv C, dsk q C.D]
theorem WL.storeRest {N : Nat} {env : Env} {L M : List Assn} {k : Kont} {ops : Array Oper} {rs : List Oper} {o : Oper} {p : Nat} {T : TypeId} {rest rest2 : List Value} {R : Rnd} {t : TypeId} {x y : Operand} {i off : Nat} {ti : TI} {v : Value}
    (hg : o.guard = none) (ho : o.op = .store t x y) (hx : rd none env x = some (none, .pointer (some ⟨p, off, none⟩))) (hy : rd none env y = some (none, v)) (ht : G.T.find t = some ti) (hv : cellsOf v = some [v]) (h1 : one v = true) (hl : 1 = ti.size) (hd : o.dst = none)
    (hoff : off = 9 + i) (hset : setOne rest i v = some rest2) (hi : Imp L (rnd p T rest R :: M)) (h : WL G N ops rs env (rnd p T rest2 R :: M) k) : WL G N ops (o :: rs) env L k := by
  refine WL.open hi (fun z => ?_)
  refine WL.step hg (OP.store (M := blk p (rndC R z ++ rest2) T :: ownS z.1 R.vols.length z.2.1 3 1 (R.vols.map vI) :: ansO R.ans R.number z.2.2 :: M) ho hx hy ht hv (by simp [allOne, h1]) (by simpa using hl) (UpdM.here ?_) hd ?_)
  · rw [hoff, show 9 + i = i + 9 from Nat.add_comm _ _]
    simp only [setMany, rndC, List.cons_append, List.nil_append, setOne, hset]
  · exact WL.imp (rndFold p T rest2 R z) h
set_option maxHeartbeats 8000000 in
set_option maxRecDepth 10000 in
theorem canswer_ok (p q g : Nat) (fv : Fst) (C : Crd) (B : Int) (c : Cmd) (I : CInv C B) (hvl : C.R.vols.length < 1000000) :
    Triple G 28 [.pointer (some ⟨p, 0, none⟩), .agg (encCmd c).toArray] [crdA p q g fv C, dsk q C.D] (AnswerCo p q g fv C c) := by
  refine Triple.enter Try.func28 rfl (by decide) rfl Try.ntmps28 rfl (fun F => ?_)
  obtain ⟨kd, vol, num⟩ := c
  have hdef : answerC C (kd, vol, num) = match answerR C.R (kd, vol, num) with
    | .error e => .error ([(coordT, num), (roundT, num)], e)
    | .ok (l, R') => .ok (l, { C with R := R', marked := if R'.complete = true then R'.done else C.marked }) := rfl
  refine WC.open (M := [dsk q C.D, F]) (Ls := crdL p q g fv C) II (fun j => ?_)
  unfold crdL
  dsimp only [List.cons_append, List.nil_append]
  have hdn := cdown_ro p C.R C.last C.marked q C.J.ring j fv g
  have hra := ranswer_ok p ndT (restC C.last C.marked q C.J.ring (.pointer (some ⟨j, 0, none⟩)) fv g) C.R (kd, vol, num) hvl (fun h => (I.R.vols h).2)
  unfold RAnswer at hra
  rw [show encCmd (kd, vol, num) = [.int .i64 kd, .int .i64 vol, .int .i64 num] from rfl] at *
  repeat (first | refine GD ?_ | refine NW fun _ => ?_)
  refine WL.step rfl (OP.callRO rfl rfl hdn (Ent.at (up_rnd _ _ _ _) MM) rfl rfl ?_)
  repeat (first | refine GD ?_ | refine NW fun _ => ?_)
  cases hop : answerR C.R (kd, vol, num) with
  | error e =>
    rw [hop] at hra hdef
    dsimp only at hra hdef
    refine RD 5 11 (_) ?_
    refine WP 0 ?_
    refine WP 1 ?_
    refine WP 2 ?_
    refine WP 3 ?_
    refine VV 4 ?_
    refine WH.only 5 rfl rfl (by kernel_rfl) rfl (OP.call (pre := [rnd p ndT _ C.R]) rfl rfl hra PS rfl rfl (fun v M hM => ?_))
    obtain ⟨er, E, hEr, rfl, rfl⟩ := hM
    obtain ⟨y, ch, hc1, rfl, rfl⟩ := isEr_one hEr (by simp)
    refine ⟨(fun h => nomatch h), ?_⟩
    refine WP 6 ?_
    refine WP 7 ?_
    refine WP 8 ?_
    refine WP 9 ?_
    refine WP 10 ?_
    refine DN ?_
    have hwr := cwrong_ok num (y :: ch) e (fun h => nomatch h.1)
    dsimp only [valOf] at hwr
    repeat (first | refine GD ?_ | refine NW fun _ => ?_)
    refine WL.step rfl (OP.callRO rfl rfl (rdone_ro p ndT _ C.R) (Ent.at (up_rnd _ _ _ _) MM) rfl rfl ?_)
    have hfin : Imp [rnd p ndT (restC C.last C.marked q C.J.ring (.pointer (some ⟨j, 0, none⟩)) fv g) C.R, jrn j q C.J, grp g C.f C.ch, dsk q C.D, F] [crdA p q g fv C, dsk q C.D, F] := crdFold p q g fv C j (N := [dsk q C.D, F])
    cases hcm : C.R.complete with
    | false =>
      repeat (first | refine GD ?_ | refine NW fun _ => ?_)
      refine WL.step rfl (OP.call (pre := [chainR (y :: ch) e]) rfl rfl hwr PS rfl rfl ?_)
      intro v M hM
      rw [hc1] at hM
      repeat (first | refine GD ?_ | refine NW fun _ => ?_)
      refine ret2 rfl rfl ⟨M ++ [crdA p q g fv C, dsk q C.D], ?_, ?_⟩
      · unfold AnswerCo
        rw [hdef]
        exact ⟨v, M, hM, rfl, rfl⟩
      · rw [List.append_assoc]
        refine Imp.appL ?_ _
        exact Imp.trans II hfin
    | true =>
      have hmk := I.full hcm
      repeat refine GS ?_
      refine WL.storeRest (R := C.R) (T := ndT) (i := 1) rfl rfl rfl rfl rfl rfl rfl rfl rfl rfl rfl P1 ?_
      rw [← hmk]
      repeat (first | refine GD ?_ | refine NW fun _ => ?_)
      refine WL.step rfl (OP.call (pre := [chainR (y :: ch) e]) rfl rfl hwr PS rfl rfl ?_)
      intro v M hM
      rw [hc1] at hM
      repeat (first | refine GD ?_ | refine NW fun _ => ?_)
      refine ret2 rfl rfl ⟨M ++ [crdA p q g fv C, dsk q C.D], ?_, ?_⟩
      · unfold AnswerCo
        rw [hdef]
        exact ⟨v, M, hM, rfl, rfl⟩
      · rw [List.append_assoc]
        refine Imp.appL ?_ _
        exact Imp.trans II hfin
  | ok y =>
    obtain ⟨l, R'⟩ := y
    rw [hop] at hra hdef
    dsimp only at hra hdef
    refine RD 5 11 (_) ?_
    refine WP 0 ?_
    refine WP 1 ?_
    refine WP 2 ?_
    refine WP 3 ?_
    refine VV 4 ?_
    refine WH.only 5 rfl rfl (by kernel_rfl) rfl (OP.call (pre := [rnd p ndT _ C.R]) rfl rfl hra PS rfl rfl (fun v M hM => ?_))
    obtain ⟨x, E, hC, rfl, rfl⟩ := hM
    obtain ⟨xa, xc, rfl, rfl⟩ := hC
    refine ⟨(fun h => nomatch h), ?_⟩
    refine WP 6 ?_
    refine WP 7 ?_
    refine WP 8 ?_
    refine WP 9 ?_
    refine WP 10 ?_
    refine DN ?_
    repeat (first | refine GD ?_ | refine NW fun _ => ?_)
    refine WL.step rfl (OP.callRO rfl rfl (rdone_ro p ndT _ R') (Ent.at (up_rnd _ _ _ _) MM) rfl rfl ?_)
    cases hcm : R'.complete with
    | false =>
      rw [hcm] at hdef
      repeat (first | refine GD ?_ | refine NW fun _ => ?_)
      refine WL.step rfl (OP.callRO rfl rfl (cwrong_nil num) (fun _ _ => trivial) rfl rfl ?_)
      repeat (first | refine GD ?_ | refine NW fun _ => ?_)
      refine ret2 rfl rfl ⟨[ownS xa l.length xc 63 3 (l.flatMap encCmd)] ++ [crdA p q g fv { C with R := R', marked := C.marked }, dsk q C.D], ?_, ?_⟩
      · unfold AnswerCo
        rw [hdef, if_neg (by decide)]
        exact ⟨_, _, ⟨xa, xc, rfl, rfl⟩, rfl, rfl⟩
      · have hf := crdFold p q g fv { C with R := R', marked := C.marked } j (N := [ownS xa l.length xc 63 3 (l.flatMap encCmd), dsk q C.D, F])
        dsimp only at hf
        exact Imp.trans II (Imp.trans hf II)
    | true =>
      rw [hcm] at hdef
      repeat refine GS ?_
      refine WL.storeRest (R := R') (T := ndT) (i := 1) rfl rfl rfl rfl rfl rfl rfl rfl rfl rfl rfl P1 ?_
      repeat (first | refine GD ?_ | refine NW fun _ => ?_)
      refine WL.step rfl (OP.callRO rfl rfl (cwrong_nil num) (fun _ _ => trivial) rfl rfl ?_)
      repeat (first | refine GD ?_ | refine NW fun _ => ?_)
      refine ret2 rfl rfl ⟨[ownS xa l.length xc 63 3 (l.flatMap encCmd)] ++ [crdA p q g fv { C with R := R', marked := R'.done }, dsk q C.D], ?_, ?_⟩
      · unfold AnswerCo
        rw [hdef, if_pos rfl]
        exact ⟨_, _, ⟨xa, xc, rfl, rfl⟩, rfl, rfl⟩
      · have hf := crdFold p q g fv { C with R := R', marked := R'.done } j (N := [ownS xa l.length xc 63 3 (l.flatMap encCmd), dsk q C.D, F])
        dsimp only at hf
        exact Imp.trans II (Imp.trans hf II)
set_option maxHeartbeats 4000000 in
set_option maxRecDepth 10000 in
theorem ctick_ok (p q g : Nat) (fv : Fst) (C : Crd) (B : Int) (I : CInv C B) (hvl : C.R.vols.length < 1000000) :
    Triple G 30 [.pointer (some ⟨p, 0, none⟩)] [crdA p q g fv C] (fun v M => ∃ E, CmdsA (tickC C).1 v E ∧ M = E ++ [crdA p q g fv (tickC C).2]) := by
  refine Triple.enter Try.func30 rfl (by decide) rfl Try.ntmps30 rfl (fun F => ?_)
  refine WC.open (M := [F]) (Ls := crdL p q g fv C) II (fun j => ?_)
  unfold crdL
  dsimp only [List.cons_append, List.nil_append]
  have hdn := cdown_ro p C.R C.last C.marked q C.J.ring j fv g
  have htk := rtick_ok p ndT (restC C.last C.marked q C.J.ring (.pointer (some ⟨j, 0, none⟩)) fv g) C.R hvl I.R.left
  repeat (first | refine GD ?_ | refine NW fun _ => ?_)
  refine WL.step rfl (OP.callRO rfl rfl hdn (Ent.at (up_rnd _ _ _ _) MM) rfl rfl ?_)
  repeat (first | refine GD ?_ | refine NW fun _ => ?_)
  refine WL.step rfl (OP.call (pre := [rnd p ndT _ C.R]) rfl rfl htk PS rfl rfl ?_)
  rintro v _ ⟨E, hE, rfl⟩
  repeat (first | refine GD ?_ | refine NW fun _ => ?_)
  refine ret1 rfl ⟨E ++ [crdA p q g fv (tickC C).2], ⟨E, hE, rfl⟩, ?_⟩
  rw [List.append_assoc, List.append_assoc]
  refine Imp.appL ?_ _
  exact crdFold p q g fv (tickC C).2 j (N := [F])
set_option maxHeartbeats 4000000 in
set_option maxRecDepth 10000 in
theorem crounds_ro (p q g : Nat) (fv : Fst) (C : Crd) : RO G 29 [.pointer (some ⟨p, 0, none⟩)] (crdA p q g fv C) (.tuple #[.int .i64 C.last, .int .i64 C.R.number, .int .i64 C.marked]) := by
  refine RO.enterEx Try.func29 rfl (by decide) rfl Try.ntmps29 rfl (fun j A hu hA => ?_)
  have hR : ∀ {L}, A ∈ L → Ent L (rnd p ndT (restC C.last C.marked q C.J.ring (.pointer (some ⟨j, 0, none⟩)) fv g) C.R) := fun m => Ent.of hu hA m (Ent.at (up_rnd _ _ _ _) (List.Mem.head _))
  have hC : ∀ {L} {i : Nat} {v : Value}, A ∈ L → (restC C.last C.marked q C.J.ring (.pointer (some ⟨j, 0, none⟩)) fv g)[i]? = some v → Ent L (cellAt p (9 + i) v) := fun m hv => Ent.of hu hA m (rnd_rest (R := C.R) (T := ndT) (List.Mem.head _) hv)
  have hdn := cdown_ro p C.R C.last C.marked q C.J.ring j fv g
  repeat (first | refine GD ?_ | refine NW fun _ => ?_)
  refine WL.step rfl (OP.callRO rfl rfl hdn (hR MM) rfl rfl ?_)
  repeat (first | refine GD ?_ | refine NW fun _ => ?_)
  refine RD 18 18 (_) ?_
  refine WP 0 ?_
  refine WP 1 ?_
  refine WP 2 ?_
  refine WP 3 ?_
  refine VL 4 (.int .i64 C.last) rfl rfl rfl rfl (.inl ⟨rfl, hC (i := 0) MM rfl⟩) ?_
  refine WP 5 ?_
  refine WP 6 ?_
  refine WP 7 ?_
  refine WP 8 ?_
  refine WP 10 ?_
  refine WP 11 ?_
  refine WP 12 ?_
  refine WP 13 ?_
  refine VL 14 (.int .i64 C.marked) rfl rfl rfl rfl (.inl ⟨rfl, hC (i := 1) MM rfl⟩) ?_
  refine WH.only 9 rfl rfl (by kernel_rfl) rfl (OP.callRO rfl rfl (rnumber_ro p ndT _ C.R) (hR MM) rfl rfl ⟨fun _ => II, ?_⟩)
  refine WP 15 ?_
  refine WP 16 ?_
  refine WP 17 ?_
  refine DN ?_
  repeat (first | refine GD ?_ | refine NW fun _ => ?_)
  exact ret3 rfl rfl rfl ⟨rfl, MM⟩
set_option maxRecDepth 10000 in
theorem cgroup_ro (p q g : Nat) (fv : Fst) (C : Crd) : RO G 22 [.pointer (some ⟨p, 0, none⟩)] (crdA p q g fv C) (.pointer (some ⟨g, 0, none⟩)) := by
  refine RO.enterEx Try.func22 rfl (by decide) rfl Try.ntmps22 rfl (fun j A hu hA => ?_)
  have hC : ∀ {L} {i : Nat} {v : Value}, A ∈ L → (restC C.last C.marked q C.J.ring (.pointer (some ⟨j, 0, none⟩)) fv g)[i]? = some v → Ent L (cellAt p (9 + i) v) := fun m hv => Ent.of hu hA m (rnd_rest (R := C.R) (T := ndT) (List.Mem.head _) hv)
  repeat (first | refine GD ?_ | refine NW fun _ => ?_)
  refine WL.step rfl (OP.load1 (v := .pointer (some ⟨g, 0, none⟩)) rfl rfl rfl rfl (hC (i := 6) MM rfl) rfl rfl ?_)
  repeat (first | refine GD ?_ | refine NW fun _ => ?_)
  exact ret1 rfl ⟨rfl, MM⟩
/-- the group of a coordinator -/
theorem crd_grp {p q g : Nat} {fv : Fst} {C : Crd} {L : List Assn} (m : crdA p q g fv C ∈ L) : Ent L (grp g C.f C.ch) := Ent.mem m (up_crdA _ _ _ _ _) fun h ⟨j, s⟩ => (Ent.at (A := grp g C.f C.ch) (up_grp _ _ _) (by unfold crdL; exact MM)) h s
end Go.Proofs.Ytacgheafbkfciaa
/- Contracts of functions of the given program, and plain laws on what they compute: parts of the proofs of laws. -/

namespace Go.Proofs.Ytacgheafbkfciaa
open Go Go.GL

def ChangeCo (p q g : Nat) (fv : Fst) (C : Crd) (vol : Int) (inn : Bool) (v : Value) (M : List Assn) : Prop := match changeC C vol inn with
  | .ok C' => v = .nilIface ∧ M = [crdA p q g fv C', dsk q C'.D]
  | .error (l, c) => ∃ E, IsEr (some (l, c)) v E ∧ M = E ++ [crdA p q g fv C, dsk q C.D]
theorem member_memT : member = memT := rfl
set_option maxHeartbeats 8000000 in
set_option maxRecDepth 10000 in
theorem cchg_ok (p q g : Nat) (fv : Fst) (C : Crd) (B : Int) (vol : Int) (inn : Bool) (I : CInv C B) (hB : B + 4 ≤ widest) :
    Triple G 24 [.pointer (some ⟨p, 0, none⟩), .int .i64 vol, .bool inn] [crdA p q g fv C, dsk q C.D] (ChangeCo p q g fv C vol inn) := by
  refine Triple.enter Try.func24 rfl (by decide) rfl Try.ntmps24 rfl (fun F => ?_)
  have hww : widest = 1152921504606846975 := rfl
  have hnum := I.num
  have hlast := I.last
  have hdef : changeC C vol inn = if C.J.held.length = C.J.ring then .error ([(coordT, vol)], 6)
    else match putM C.f C.ch (C.last + 1, vol, !inn) with
    | some c => .error ([(coordT, vol), (memT, vol)], c)
    | none => match appendM C.J C.D (chgR vol inn) with
      | .error c => .error ((coordT, vol) :: appEr C.J c, c)
      | .ok (J', D') => .ok { C with J := J', D := D'.flush, ch := C.ch ++ [(C.last + 1, vol, !inn)] } := rfl
  refine WC.open (M := [dsk q C.D, F]) (Ls := crdL p q g fv C) II (fun j => ?_)
  unfold crdL
  dsimp only [List.cons_append, List.nil_append]
  have hdn := cdown_ro p C.R C.last C.marked q C.J.ring j fv g
  have hroom := jroom_ro j q C.J (I.jr hB)
  have hcg := cchange_ok p C.R C.last C.marked q C.J.ring (.pointer (some ⟨j, 0, none⟩)) fv g C.f C.ch vol inn I.f4 I.vols I.few ⟨hlast.1, by omega⟩
  unfold ChgG PutG at hcg
  have hfin : Imp [rnd p ndT (restC C.last C.marked q C.J.ring (.pointer (some ⟨j, 0, none⟩)) fv g) C.R, jrn j q C.J, grp g C.f C.ch, dsk q C.D, F] [crdA p q g fv C, dsk q C.D, F] := crdFold p q g fv C j (N := [dsk q C.D, F])
  have hjl := I.J.len
  repeat (first | refine GD ?_ | refine NW fun _ => ?_)
  refine WL.step rfl (OP.callRO rfl rfl hdn (Ent.at (up_rnd _ _ _ _) MM) rfl rfl ?_)
  repeat (first | refine GD ?_ | refine NW fun _ => ?_)
  refine WL.step rfl (OP.load1 (v := .pointer (some ⟨j, 0, none⟩)) rfl rfl rfl rfl (rnd_rest (i := 4) (R := C.R) (T := ndT) MM rfl) rfl rfl ?_)
  repeat (first | refine GD ?_ | refine NW fun _ => ?_)
  refine WL.step rfl (OP.callRO rfl rfl hroom (Ent.at (up_jrn _ _ _) MM) rfl rfl ?_)
  by_cases hfull : C.J.held.length = C.J.ring
  · have hop : changeC C vol inn = .error ([(coordT, vol)], 6) := by rw [hdef, if_pos hfull]
    have h0 : (C.J.ring : Int) - C.J.held.length = 0 := by omega
    repeat (first | refine GD ?_ | refine NW fun _ => ?_)
    refine WL.step rfl (OP.call (pre := []) rfl rfl (cwrong1_ok vol 6 (by decide)) PS rfl rfl ?_)
    intro v M hM
    repeat (first | refine GD ?_ | refine NW fun _ => ?_)
    refine ret1 rfl ⟨M ++ [crdA p q g fv C, dsk q C.D], ?_, ?_⟩
    · unfold ChangeCo
      rw [hop]
      exact ⟨M, hM, rfl⟩
    · rw [List.append_assoc]
      refine Imp.appL ?_ _
      exact Imp.trans II hfin
  rw [if_neg hfull] at hdef
  have h0 : ¬ (C.J.ring : Int) - C.J.held.length = 0 := by omega
  repeat (first | refine GD ?_ | refine NW fun _ => ?_)
  cases hp : putM C.f C.ch (C.last + 1, vol, !inn) with
  | some c =>
    rw [hp] at hdef hcg
    dsimp only at hdef hcg
    refine WL.step rfl (OP.call (pre := [rnd p ndT _ C.R, grp g C.f C.ch]) rfl rfl hcg PS rfl rfl ?_)
    rintro v _ ⟨_, ⟨E, hF, rfl⟩, rfl⟩
    obtain ⟨M', hi, hm⟩ := hF.isEr
    obtain ⟨y, ch, hc1, rfl, rfl⟩ := isEr_one hi (by simp)
    have hwr := cwrong_ok vol (y :: ch) c (fun h => nomatch h.1)
    dsimp only [valOf] at hwr
    rw [List.append_assoc, List.append_assoc]
    refine WL.imp (Imp.app hm _) ?_
    repeat (first | refine GD ?_ | refine NW fun _ => ?_)
    refine WL.step rfl (OP.call (pre := [chainR (y :: ch) c]) rfl rfl hwr PS rfl rfl ?_)
    intro v M hM
    rw [hc1] at hM
    repeat (first | refine GD ?_ | refine NW fun _ => ?_)
    refine ret1 rfl ⟨M ++ [crdA p q g fv C, dsk q C.D], ?_, ?_⟩
    · unfold ChangeCo
      rw [hdef]
      exact ⟨M, hM, rfl⟩
    · rw [List.append_assoc]
      refine Imp.appL ?_ _
      exact Imp.trans II hfin
  | none =>
    rw [hp] at hdef hcg
    dsimp only at hdef hcg
    obtain ⟨p1, p2, p3, p4, p5⟩ := put_none hp
    dsimp only at p1
    have hrt : appendM C.J C.D (chgR vol inn) = _ := I.right hB hfull (.inr ⟨rfl, by show 0 ≤ vol ∧ vol < 8; omega, by cases inn; exact (by decide : minusB.size ≤ 16); exact (by decide : plusB.size ≤ 16), rfl⟩)
    have hap := jappend_ok j q C.J C.D (chgR vol inn) (I.jr hB) I.J.ring.2.2 (by rw [I.W]; decide) (by cases inn; exact (by decide : minusB.size < 1000000); exact (by decide : plusB.size < 1000000))
    unfold AppJ at hap
    obtain ⟨Ja, _, er, _⟩ := I.J.append hrt
    rw [hrt] at hap hdef
    dsimp only at hap hdef
    generalize C.D.put (posM C.J.ring C.J.next) (sectorM (bodyM C.J.hd.gen (setSeq (chgR vol inn) C.J.next))) = D' at *
    generalize (⟨C.J.ring, C.J.hd, C.J.held ++ [(C.J.hd.gen, setSeq (chgR vol inn) C.J.next)]⟩ : Jrn) = J' at *
    refine WL.step rfl (OP.call (pre := [rnd p ndT _ C.R, grp g C.f C.ch]) rfl rfl hcg PS rfl rfl ?_)
    rintro _ _ ⟨_, ⟨rfl, rfl⟩, rfl⟩
    cases inn with
    | true =>
      repeat (first | refine GD ?_ | refine NW fun _ => ?_)
      refine WL.step rfl (OP.load1 (v := .pointer (some ⟨j, 0, none⟩)) rfl rfl rfl rfl (rnd_rest (i := 4) (R := C.R) (T := ndT) MM rfl) rfl rfl ?_)
      repeat (first | refine GD ?_ | refine NW fun _ => ?_)
      refine WL.step rfl (OP.call (pre := [jrn j q C.J, dsk q C.D]) rfl rfl hap PS rfl rfl ?_)
      rintro _ _ ⟨rfl, rfl⟩
      repeat (first | refine GD ?_ | refine NW fun _ => ?_)
      refine WL.step rfl (OP.load1 (v := .pointer (some ⟨j, 0, none⟩)) rfl rfl rfl rfl (rnd_rest (i := 4) (R := C.R) (T := ndT) MM rfl) rfl rfl ?_)
      repeat (first | refine GD ?_ | refine NW fun _ => ?_)
      refine WL.step rfl (OP.call (pre := [jrn j q J', dsk q D']) rfl rfl (jflush_ok j q J' D' Ja.dok Ja.few) PS rfl rfl ?_)
      rintro _ _ ⟨rfl, rfl⟩
      repeat (first | refine GD ?_ | refine NW fun _ => ?_)
      refine WL.step rfl (OP.callRO rfl rfl (cwrong_nil vol) (fun _ _ => trivial) rfl rfl ?_)
      repeat (first | refine GD ?_ | refine NW fun _ => ?_)
      refine ret1 rfl ⟨[crdA p q g fv _, dsk q D'.flush], by unfold ChangeCo; rw [hdef]; exact ⟨rfl, rfl⟩, ?_⟩
      have hf := crdFold p q g fv { C with J := J', D := D'.flush, ch := C.ch ++ [(C.last + 1, vol, !true)] } j (N := [dsk q D'.flush, F])
      dsimp only at hf
      rw [er] at hf
      exact Imp.trans II hf
    | false =>
      repeat (first | refine GD ?_ | refine NW fun _ => ?_)
      refine WL.step rfl (OP.load1 (v := .pointer (some ⟨j, 0, none⟩)) rfl rfl rfl rfl (rnd_rest (i := 4) (R := C.R) (T := ndT) MM rfl) rfl rfl ?_)
      repeat (first | refine GD ?_ | refine NW fun _ => ?_)
      refine WL.step rfl (OP.call (pre := [jrn j q C.J, dsk q C.D]) rfl rfl hap PS rfl rfl ?_)
      rintro _ _ ⟨rfl, rfl⟩
      repeat (first | refine GD ?_ | refine NW fun _ => ?_)
      refine WL.step rfl (OP.load1 (v := .pointer (some ⟨j, 0, none⟩)) rfl rfl rfl rfl (rnd_rest (i := 4) (R := C.R) (T := ndT) MM rfl) rfl rfl ?_)
      repeat (first | refine GD ?_ | refine NW fun _ => ?_)
      refine WL.step rfl (OP.call (pre := [jrn j q J', dsk q D']) rfl rfl (jflush_ok j q J' D' Ja.dok Ja.few) PS rfl rfl ?_)
      rintro _ _ ⟨rfl, rfl⟩
      repeat (first | refine GD ?_ | refine NW fun _ => ?_)
      refine WL.step rfl (OP.callRO rfl rfl (cwrong_nil vol) (fun _ _ => trivial) rfl rfl ?_)
      repeat (first | refine GD ?_ | refine NW fun _ => ?_)
      refine ret1 rfl ⟨[crdA p q g fv _, dsk q D'.flush], by unfold ChangeCo; rw [hdef]; exact ⟨rfl, rfl⟩, ?_⟩
      have hf := crdFold p q g fv { C with J := J', D := D'.flush, ch := C.ch ++ [(C.last + 1, vol, !false)] } j (N := [dsk q D'.flush, F])
      dsimp only at hf
      rw [er] at hf
      exact Imp.trans II hf
end Go.Proofs.Ytacgheafbkfciaa
/- Contracts of functions of the given program, and plain laws on what they compute: parts of the proofs of laws. -/

namespace Go.Proofs.Ytacgheafbkfciaa
open Go Go.GL

set_option maxHeartbeats 1000000 in
set_option maxRecDepth 10000 in
theorem csame_ro (a1 a2 : Option Addr) (n1 c1 n2 c2 : Nat) (l1 l2 : List Int) (h1 : n1 = l1.length) (h2 : n2 = l2.length) (hs : n1 < 1000000) : RO G 25 [.slice a1 n1 c1, .slice a2 n2 c2] (fun h => readS a1 n1 1 (l1.map vI) h ∧ readS a2 n2 1 (l2.map vI) h) (.bool (decide (l1 = l2))) := by
  refine RO.enter Try.func25 rfl (by decide) rfl Try.ntmps25 rfl (fun A hu hA => ?_) (up_and (up_readS _ _ _ _) (up_readS _ _ _ _))
  have hE1 : ∀ {L}, A ∈ L → Ent L (readS a1 n1 1 (l1.map vI)) := fun m => Ent.mem m hu fun k x => (hA k x).1
  have hE2 : ∀ {L}, A ∈ L → Ent L (readS a2 n2 1 (l2.map vI)) := fun m => Ent.mem m hu fun k x => (hA k x).2
  by_cases hne : n1 = n2
  rotate_left
  · have : l1 ≠ l2 := fun e => hne (by rw [h1, h2, e])
    repeat (first | refine GD ?_ | refine NW fun _ => ?_)
    exact ret1 rfl ⟨by simp [this], MM⟩
  subst hne
  repeat (first | refine GD ?_ | refine NW fun _ => ?_)
  refine WC.loop (σ := Nat) (fun k => k ≤ n1 ∧ ∀ j, j < k → l1[j]? = l2[j]?)
    (fun k => [(0, .val (.slice a1 n1 c1)), (1, .val (.slice a2 n1 c2)), (12, .val (.int .i64 n1)), (13, .val (.int .i64 k))])
    (fun k => [A]) (fun k => n1 - k) 0 ⟨Nat.zero_le _, fun j hj => by omega⟩ ⟨rfl, rfl, rfl, rfl, trivial⟩ (Imp.refl _) ?_
  rintro k ⟨hk, hall⟩
  by_cases hlt : k < n1
  rotate_left
  · repeat (first | refine GD ?_ | refine NW fun _ => ?_)
    refine ret1 rfl ⟨?_, MM⟩
    have : l1 = l2 := List.ext_getElem? fun i => by
      by_cases hi : i < k
      · exact hall i hi
      · rw [List.getElem?_eq_none (by omega), List.getElem?_eq_none (by omega)]
    simp [this]
  have hl1 : k < l1.length := by omega
  have hl2 : k < l2.length := by omega
  repeat (first | refine GD ?_ | refine NW fun _ => ?_)
  refine WC.fact (Ent.some (hE1 MM) (by omega)) ?_
  rintro ⟨b, off, rfl⟩
  refine WC.fact (Ent.some (hE2 MM) (by omega)) ?_
  rintro ⟨b', off', rfl⟩
  refine RD 9 9 (_) ?_
  refine WP 0 ?_
  refine WP 1 ?_
  refine WP 2 ?_
  refine VL 3 (vI l1[k]) rfl rfl rfl rfl (.inl ⟨rfl, Ent.elem (i := k * 1) (hE1 MM) rfl (int_at hl1)⟩) ?_
  refine WP 4 ?_
  refine WP 5 ?_
  refine WP 6 ?_
  refine VL 7 (vI l2[k]) rfl rfl rfl rfl (.inl ⟨rfl, Ent.elem (i := k * 1) (hE2 MM) rfl (int_at hl2)⟩) ?_
  refine WP 8 ?_
  refine DN ?_
  by_cases he : l1[k] = l2[k]
  · rw [decide_eq_true he]
    repeat (first | refine GD ?_ | refine NW fun _ => ?_)
    exact ⟨k + 1, ⟨by omega, fun j hj => by
      by_cases e : j = k
      · subst e; rw [List.getElem?_eq_getElem hl1, List.getElem?_eq_getElem hl2, he]
      · exact hall j (by omega)⟩, by omega, ⟨rfl, rfl, rfl, rfl, trivial⟩, Imp.refl _⟩
  · rw [decide_eq_false he]
    repeat (first | refine GD ?_ | refine NW fun _ => ?_)
    refine ret1 rfl ⟨?_, MM⟩
    have : l1 ≠ l2 := fun e => he (by subst e; rfl)
    simp [this]
theorem CInv.beginOk {C : Crd} {B : Int} (I : CInv C B) (hB : B + 4 ≤ widest) (h0 : C.R.number = 0) (hm : C.mem (C.last + 1) ≠ []) (hfull : C.J.held.length ≠ C.J.ring) : ∃ l C', beginC C = .ok ((C.last + 1, l), C') := by
  have hww : widest = 1152921504606846975 := rfl
  have hl := I.last
  have hn := I.num
  have ha := I.right hB hfull (r := markR (C.last + 1)) (.inl ⟨rfl, ⟨by show 1 ≤ C.last + 1; omega, by show C.last + 1 ≤ widest; omega⟩, rfl, rfl⟩)
  unfold beginC
  rw [if_neg (not_not_intro h0), if_neg hm, ha]
  exact ⟨_, _, rfl⟩
set_option maxHeartbeats 8000000 in
set_option maxRecDepth 10000 in
theorem cawake_ro : RO G 17 [] (fun _ => True) (.bool true) := by
  refine RO.enter Try.func17 rfl (by decide) rfl Try.ntmps17 rfl (fun A hu hA => ?_) (fun _ _ _ h => h)
  have hww : widest = 1152921504606846975 := rfl
  obtain ⟨J, D, ho, hr, hh, hoc, hst, I⟩ := CInv.fresh (n := 10) (ring := 8) (by decide) (by decide) (by decide) (by decide) (l := [0, 1]) (f := [true, true, false, false]) rfl
  have ho' : openM (Dsk.new 10) 8 = .ok (J, D) := ho
  have hoc' : openC (Dsk.new 10) 8 [0, 1] = .ok ⟨J, D, [true, true, false, false], [], rnd0, 0, 0⟩ := hoc
  obtain ⟨l, C', hbg⟩ := I.beginOk (by omega) rfl (show listM (atM (0 + 1) [true, true, false, false] []) ≠ [] by decide) (by rw [hh]; show ¬ (0 : Nat) = J.ring; rw [hr]; decide)
  obtain ⟨I', _, _, _, _, _, _, _, _, _, _, hl, _⟩ := I.begin (by omega) hbg
  have hl2 : l.length = 2 := by rw [hl, List.length_map]; exact (by decide : (listM (atM (0 + 1) [true, true, false, false] [])).length = 2)
  repeat (first | refine GO ?_ | refine NW fun _ => ?_)
  refine WL.step rfl (OP.callRT rfl rfl (dnew_rt 10) (fun _ _ => trivial) rfl rfl ?_)
  rintro _ _ ⟨q, rfl, rfl⟩
  repeat (first | refine GO ?_ | refine NW fun _ => ?_)
  rename_i b
  have hop := copen_ok q 8 (some ⟨b, 0, none⟩, 2, 2) (Dsk.new 10) (ownS (some ⟨b, 0, none⟩) 2 2 3 1 [vI 0, vI 1]) (up_ownS _ _ _ _ _ _) [0, 1] (fun _ h => read_of_own h) (show (2 : Nat) < 1000000 by decide) (Dsk.new_ok 10) (by decide) (by decide) (fun J2 D2 h => by
    rw [ho'] at h; cases h; exact ⟨I.jr (by omega), I.J.right⟩)
  unfold OpenCo at hop
  rw [hoc'] at hop
  refine WL.step rfl (OP.call (pre := [dsk q (Dsk.new 10), ownS (some ⟨b, 0, none⟩) 2 2 3 1 [vI 0, vI 1]]) rfl rfl hop PS rfl rfl ?_)
  rintro _ _ ⟨p, g, rfl, rfl⟩
  repeat (first | refine GO ?_ | refine NW fun _ => ?_)
  refine WL.guardT rfl rfl rfl rfl (OP.callRO rfl rfl (cgroup_ro p q g _ _) (Ent.at (up_crdA _ _ _ _ _) MM) rfl rfl ?_)
  repeat (first | refine GO ?_ | refine NW fun _ => ?_)
  have hcb := cbegin_ok p q g (some ⟨b, 0, none⟩, 2, 2) _ _ I (by omega)
  unfold BeginCo at hcb
  rw [hbg] at hcb
  refine WL.step rfl (OP.call (pre := [crdA p q g _ _, dsk q D]) rfl rfl hcb PS rfl rfl ?_)
  rintro _ _ ⟨_, _, ⟨xa, xc, rfl, rfl⟩, rfl, rfl⟩
  rw [hl2]
  repeat (first | refine GO ?_ | refine NW fun _ => ?_)
  exact ret1 rfl ⟨rfl, MM⟩
end Go.Proofs.Ytacgheafbkfciaa
/- Contracts of functions of the given program, and plain laws on what they compute: parts of the proofs of laws. -/

namespace Go.Proofs.Ytacgheafbkfciaa
open Go Go.GL

/-! a round whose commands are all answered in turn: the plain law -/
theorem lacks_set {R : Rnd} {v0 : Int} {r : List Int} (hn : R.vols.Nodup) (h : lacksM R = v0 :: r) : lacksM { R with ans := setA R.ans v0 } = r := by
  have e : lacksM { R with ans := setA R.ans v0 } = (lacksM R).filter (fun v => decide (v ≠ v0)) := by
    unfold lacksM
    rw [List.filter_filter]
    congr 1
    funext v
    dsimp only [setA]
    by_cases hv : v = v0
    · rw [if_pos hv]; simp [hv]
    · rw [if_neg hv]; simp [hv]
  have hnd : (v0 :: r).Nodup := by rw [← h]; exact hn.filter _
  have h2 := List.nodup_cons.1 hnd
  rw [e, h, List.filter_cons_of_neg (by simp), List.filter_eq_self]
  intro v hv
  simp only [decide_eq_true_eq]
  intro ev
  exact h2.1 (ev ▸ hv)
theorem lacks_fresh (R : Rnd) (p : Int) : lacksM (R.fresh p) = R.vols := by
  unfold lacksM
  exact List.filter_eq_self.2 (fun x _ => (rfl : (!false) = true))
structure RLive (R : Rnd) (n : Int) (vs : List Int) : Prop where
  num : R.number = n
  vols : R.vols = vs
  ph : 1 ≤ R.phase ∧ R.phase ≤ 3
  mrk : R.phase = 3 → R.marked = true
  some : lacksM R ≠ []
structure ROver (R : Rnd) (n : Int) : Prop where
  num : R.number = 0
  full : R.complete = true
  done : R.done = n
def RQ (R : Rnd) (n : Int) (vs : List Int) (out : List Cmd) : Prop := (RLive R n vs ∧ out = tellL R) ∨ (ROver R n ∧ out = [])
def rqM (R : Rnd) (out : List Cmd) : Nat := if out = [] then 0 else (4 - R.phase).toNat * 5 + out.length
theorem RQ.step {R : Rnd} {n : Int} {vs : List Int} {c : Cmd} {r : List Cmd} (h : RQ R n vs (c :: r)) (hn : n ≠ 0) (hv : RightV vs) (hl : vs.length ≤ 4) :
    ∃ l R', answerR R c = .ok (l, R') ∧ RQ R' n vs (r ++ l) ∧ rqM R' (r ++ l) < rqM R (c :: r) := by
  rcases h with ⟨hL, ho⟩ | ⟨_, ho⟩
  rotate_left
  · cases ho
  obtain ⟨e1, e2, e3, e4, e5⟩ := hL
  subst e1
  cases hlk : lacksM R with
  | nil => exact absurd hlk e5
  | cons v0 rs =>
    unfold tellL at ho
    rw [hlk, List.map_cons] at ho
    simp only [List.cons.injEq] at ho
    obtain ⟨rfl, rfl⟩ := ho
    have hnd : R.vols.Nodup := by rw [e2]; exact hv.2.1
    have hset := lacks_set hnd hlk
    have hin : v0 ∈ R.vols := by
      have : v0 ∈ lacksM R := by rw [hlk]; exact List.mem_cons_self
      exact (List.mem_filter.1 this).1
    have hvl : 0 < vs.length := List.length_pos_iff.2 hv.1
    have hmu : rqM R ((R.phase, v0, R.number) :: rs.map (fun v => (R.phase, v, R.number))) = (4 - R.phase).toNat * 5 + (rs.length + 1) := by
      unfold rqM
      rw [if_neg (by simp), List.length_cons, List.length_map]
    have hdef : answerR R (R.phase, v0, R.number) = if lacksM { R with ans := setA R.ans v0 } ≠ [] then .ok ([], { R with ans := setA R.ans v0 }) else .ok (nextR { R with ans := setA R.ans v0 }) := by
      unfold answerR
      rw [if_neg (by rintro (h | h | h); exact hn h; exact h rfl; exact h rfl), if_neg (not_not_intro hin)]
    rw [hset] at hdef
    by_cases hr : rs = []
    · subst hr
      rw [if_neg (not_not_intro rfl)] at hdef
      have hp : R.phase = 1 ∨ R.phase = 2 ∨ R.phase = 3 := by omega
      have hfr : ∀ (R2 : Rnd) (p : Int), R2.vols = vs → R2.number = R.number → 1 ≤ p ∧ p ≤ 3 → (p = 3 → R2.marked = true) → (4 - R.phase) = (4 - p) + 1 → RQ (R2.enter p).2 R.number vs ([] ++ (R2.enter p).1) ∧ rqM (R2.enter p).2 ([] ++ (R2.enter p).1) < (4 - R.phase).toNat * 5 + (0 + 1) := fun R2 p h1 h2 h3 h4 h5 => by
        have hf : lacksM (R2.fresh p) = vs := by rw [lacks_fresh, h1]
        have ht : (R2.enter p).1 = vs.map (fun v => (p, v, R.number)) := by
          show tellL (R2.fresh p) = _
          unfold tellL
          rw [hf, show (R2.fresh p).number = R.number from h2]
          rfl
        refine ⟨.inl ⟨⟨h2, h1, h3, h4, fun hx => hv.1 (hf ▸ hx)⟩, rfl⟩, ?_⟩
        unfold rqM
        rw [List.nil_append, ht, if_neg (fun hx => hv.1 (List.map_eq_nil_iff.1 hx)), List.length_map]
        show (4 - p).toNat * 5 + vs.length < _
        omega
      rcases hp with hp | hp | hp
      · refine ⟨(({ R with ans := setA R.ans v0 } : Rnd).enter 2).1, (({ R with ans := setA R.ans v0 } : Rnd).enter 2).2, hdef.trans ?_, ?_⟩
        · unfold nextR
          rw [if_neg (by show ¬ R.phase = 2; omega), if_pos (show R.phase = 1 from hp)]
        · rw [hmu]
          exact hfr _ 2 e2 rfl (by omega) (fun h => absurd h (by decide)) (by omega)
      · refine ⟨(({ R with ans := setA R.ans v0, marked := true } : Rnd).enter 3).1, (({ R with ans := setA R.ans v0, marked := true } : Rnd).enter 3).2, hdef.trans ?_, ?_⟩
        · unfold nextR
          rw [if_pos (show R.phase = 2 from hp)]
        · rw [hmu]
          exact hfr _ 3 e2 rfl (by omega) (fun _ => rfl) (by omega)
      · refine ⟨[], { R with ans := setA R.ans v0, done := R.number, complete := R.marked, number := 0, vols := [] }, hdef.trans ?_, .inr ⟨⟨rfl, e4 hp, rfl⟩, rfl⟩, ?_⟩
        · unfold nextR
          rw [if_neg (by show ¬ R.phase = 2; omega), if_neg (by show ¬ R.phase = 1; omega)]
        · rw [hmu]
          show rqM _ [] < _
          unfold rqM
          rw [if_pos rfl]
          omega
    · rw [if_pos hr] at hdef
      refine ⟨_, _, hdef, .inl ⟨⟨rfl, e2, e3, e4, by rw [hset]; exact hr⟩, ?_⟩, ?_⟩
      · unfold tellL
        rw [hset, List.append_nil]
      · rw [hmu]
        unfold rqM
        rw [List.append_nil, if_neg (by simpa using hr), List.length_map]
        show (4 - R.phase).toNat * 5 + rs.length < _
        omega
theorem RQ.begin {C C' : Crd} {B : Int} (I : CInv C B) (hB : B + 4 ≤ widest) {n : Int} {l : List Cmd} (h : beginC C = .ok ((n, l), C')) : RQ C'.R n (C.mem n) l := by
  obtain ⟨I', _, _, _, _, _, hnum, _, _, _, hm, hl, hR⟩ := I.begin hB h
  have hlk : lacksM C'.R = C.mem n := by
    rw [hR]
    unfold lacksM
    exact List.filter_eq_self.2 (fun x _ => (rfl : (!false) = true))
  refine .inl ⟨⟨hnum, by rw [hR], by rw [hR]; exact ⟨(by decide : (1 : Int) ≤ 1), (by decide : (1 : Int) ≤ 3)⟩, fun h3 => by rw [hR] at h3; exact absurd h3 (by decide : ¬ (1 : Int) = 3), by rw [hlk]; exact hm⟩, ?_⟩
  unfold tellL
  rw [hlk, hl, hR]
end Go.Proofs.Ytacgheafbkfciaa
/- Contracts of functions of the given program, and plain laws on what they compute: parts of the proofs of laws. -/

namespace Go.Proofs.Ytacgheafbkfciaa
open Go Go.GL

theorem flat_dropC (c : Cmd) (r : List Cmd) : ((c :: r).flatMap encCmd).drop (1 * 3) = r.flatMap encCmd := rfl
theorem cmd_one (l : List Cmd) : allOne (l.flatMap encCmd) = true := by
  induction l with
  | nil => rfl
  | cons x r ih => rw [List.flatMap_cons]; simpa [encCmd, allOne, one] using ih
/-- a queue's first one is taken off, and others are put behind: told[1:len:len] -/
theorem rq_len {R : Rnd} {n : Int} {vs : List Int} {out : List Cmd} (h : RQ R n vs out) (hl : vs.length ≤ 4) : out.length ≤ 4 ∧ R.vols.length ≤ 4 ∨ out = [] := by
  rcases h with ⟨hL, ho⟩ | ⟨_, ho⟩
  · left
    have h1 : (lacksM R).length ≤ R.vols.length := List.length_filter_le _ _
    have h2 := hL.vols
    rw [ho]
    unfold tellL
    rw [List.length_map]
    rw [h2] at h1 ⊢
    omega
  · exact .inr ho
set_option maxHeartbeats 16000000 in
set_option maxRecDepth 10000 in
theorem crnds_ro (a : Option Addr) (n c : Nat) (fl : List Int) (many : Int) (hn : n = fl.length) (hm : 0 ≤ many ∧ many ≤ 255) : RO G 8 [.slice a n c, .int .u8 many] (readS a n 1 (fl.map vI)) (.bool true) := by
  refine RO.enter Try.func8 rfl (by decide) rfl Try.ntmps8 rfl (fun A hu hA => ?_) (up_readS _ _ _ _)
  have hww : widest = 1152921504606846975 := rfl
  repeat (first | refine GD ?_ | refine NW fun _ => ?_)
  refine WL.step rfl (OP.callRO rfl rfl cawake_ro (fun _ _ => trivial) rfl rfl ?_)
  by_cases h10 : 10 < n
  · repeat (first | refine GD ?_ | refine NW fun _ => ?_)
    refine WL.step rfl (OP.callRO rfl rfl cawake_ro (fun _ _ => trivial) rfl rfl ?_)
    repeat (first | refine GD ?_ | refine NW fun _ => ?_)
    exact ret1 rfl ⟨rfl, MM⟩
  repeat (first | refine GD ?_ | refine NW fun _ => ?_)
  refine WL.step rfl (OP.callRT rfl rfl (dnew_rt 66) (fun _ _ => trivial) rfl rfl ?_)
  rintro _ _ ⟨q, rfl, rfl⟩
  repeat (first | refine GD ?_ | refine NW fun _ => ?_)
  cases hnw : newM fl f0 with
  | error vc =>
    obtain ⟨bv, ce⟩ := vc
    have hop := copen_ok q 64 (a, n, c) (Dsk.new 66) A hu fl hA (show n < 1000000 by omega) (Dsk.new_ok 66) (by decide) (by decide) (fun J2 D2 h => by
      obtain ⟨J, D, ho, _, _, _, _, I⟩ := CInv.fresh (n := 66) (ring := 64) (by decide) (by decide) (by decide) (by decide) (l := []) (f := f0) rfl
      have ho' : openM (Dsk.new 66) 64 = .ok (J, D) := ho
      rw [ho'] at h; cases h; exact ⟨I.jr (by omega), I.J.right⟩)
    unfold OpenCo at hop
    rw [show openC (Dsk.new 66) 64 fl = .error ([(coordT, 0), (memT, bv)], ce) by unfold openC; rw [hnw]] at hop
    refine WL.step rfl (OP.call (pre := [dsk q (Dsk.new 66), A]) rfl rfl hop PS rfl rfl ?_)
    rintro _ _ ⟨e, E, hE, rfl, rfl⟩
    obtain ⟨y, ch, hc1, rfl, rfl⟩ := isEr_one hE (by simp)
    repeat (first | refine GD ?_ | refine NW fun _ => ?_)
    exact ret1 rfl ⟨rfl, MM⟩
  | ok f =>
  obtain ⟨J, D, ho, hr, hh, hoc, hst, I0⟩ := CInv.fresh (n := 66) (ring := 64) (by decide) (by decide) (by decide) (by decide) hnw
  have ho' : openM (Dsk.new 66) 64 = .ok (J, D) := ho
  have hoc' : openC (Dsk.new 66) 64 fl = .ok ⟨J, D, f, [], rnd0, 0, 0⟩ := hoc
  have hop := copen_ok q 64 (a, n, c) (Dsk.new 66) A hu fl hA (show n < 1000000 by omega) (Dsk.new_ok 66) (by decide) (by decide) (fun J2 D2 h => by
    rw [ho'] at h; cases h; exact ⟨I0.jr (by omega), I0.J.right⟩)
  unfold OpenCo at hop
  rw [hoc'] at hop
  have hlen : (listM f).length = n := by rw [order_len hnw, hn]
  have hf4 : f.length = 4 := newM_length hnw
  have hl4 : (listM f).length ≤ 4 := by have := listM_len f; omega
  have hmem : ∀ k, listM (atM k f []) = listM f := fun _ => rfl
  refine WL.step rfl (OP.call (pre := [dsk q (Dsk.new 66), A]) rfl rfl hop PS rfl rfl ?_)
  rintro _ _ ⟨p, g, rfl, rfl⟩
  obtain ⟨N, hN, hN20⟩ : ∃ N : Nat, many % 20 = N ∧ N < 20 := ⟨(many % 20).toNat, by omega, by omega⟩
  repeat (first | refine GD ?_ | refine NW fun _ => ?_)
  rw [hN]
  refine WC.loop (σ := Nat × Crd) (fun s => s.1 ≤ N ∧ CInv s.2 (3 + 2 * s.1) ∧ s.2.last = s.1 ∧ s.2.ch = [] ∧ s.2.f = f ∧ s.2.R.number = 0 ∧ s.2.J.ring = 64 ∧ s.2.J.held.length = s.1)
    (fun s => [(0, .val (.slice a n c)), (5, .val (.pointer (some ⟨p, 0, none⟩))), (36, .val (.int .i64 N)), (37, .val (.int .i64 s.1))])
    (fun s => [crdA p q g (a, n, c) s.2, dsk q s.2.D, A]) (fun s => N - s.1) (0, ⟨J, D, f, [], rnd0, 0, 0⟩) ⟨Nat.zero_le _, I0, rfl, rfl, rfl, rfl, hr, by rw [hh]; rfl⟩ ⟨rfl, rfl, rfl, rfl, trivial⟩ (Imp.refl _) ?_
  rintro ⟨i, C⟩ ⟨hi, I, hl, hch, hf, hnum, hring, hheld⟩
  dsimp only at hi I hl hch hf hnum hring hheld ⊢
  by_cases hlt : i < N
  rotate_left
  · repeat (first | refine GD ?_ | refine NW fun _ => ?_)
    exact ret1 rfl ⟨rfl, MM⟩
  have hmk : C.mem (C.last + 1) = listM f := by unfold Crd.mem; rw [hf, hch]; exact hmem _
  have hcb := cbegin_ok p q g (a, n, c) C _ I (by omega)
  unfold BeginCo at hcb
  by_cases h0 : listM f = []
  · have hop : beginC C = .error ([(coordT, C.last + 1)], 8) := by unfold beginC; rw [if_neg (not_not_intro hnum), if_pos (hmk.trans h0)]
    rw [hop] at hcb
    have hn0 : n = 0 := by rw [h0] at hlen; exact hlen.symm
    subst hn0
    repeat (first | refine GD ?_ | refine NW fun _ => ?_)
    refine WL.step rfl (OP.call (pre := [crdA p q g _ _, dsk q C.D]) rfl rfl hcb PS rfl rfl ?_)
    rintro _ _ ⟨e, E, hE, rfl, rfl⟩
    obtain ⟨y, ch, hc1, rfl, rfl⟩ := isEr_one hE (by simp)
    repeat (first | refine GD ?_ | refine NW fun _ => ?_)
    exact ret1 rfl ⟨rfl, MM⟩
  obtain ⟨l, C1, hbg⟩ := I.beginOk (by omega) hnum (by rw [hmk]; exact h0) (by omega)
  rw [hbg] at hcb
  have hrq0 := RQ.begin I (by omega) hbg
  obtain ⟨I1, _, hl1, hch1, hf1, _, _, hr1, hh1, _, _, hl', _⟩ := I.begin (by omega) hbg
  have hll : l.length = n := by rw [hl', List.length_map, hmk, hlen]
  rw [hmk, hl] at hrq0
  rw [hl] at hcb hl1
  have hvR : RightV (listM f) := rightV_list hf4 h0
  repeat (first | refine GD ?_ | refine NW fun _ => ?_)
  refine WL.step rfl (OP.call (pre := [crdA p q g _ _, dsk q C.D]) rfl rfl hcb PS rfl rfl ?_)
  rintro _ _ ⟨_, _, ⟨xa, xc, rfl, rfl⟩, rfl, rfl⟩
  rw [hll]
  repeat (first | refine GD ?_ | refine NW fun _ => ?_)
  refine WC.loop (σ := Crd × List Cmd × Option Addr × Nat) (fun s => CInv s.1 (3 + 2 * (i + 1)) ∧ s.1.last = (i : Int) + 1 ∧ s.1.ch = [] ∧ s.1.f = f ∧ s.1.J.ring = 64 ∧ s.1.J.held.length = i + 1 ∧ RQ s.1.R ((i : Int) + 1) (listM f) s.2.1 ∧ s.2.1.length ≤ 8)
    (fun s => [(0, .val (.slice a n c)), (5, .val (.pointer (some ⟨p, 0, none⟩))), (7, .val (.int .i64 i)), (8, .val (.int .i64 ((i : Int) + 1))), (9, .val (.slice s.2.2.1 s.2.1.length s.2.2.2)), (36, .val (.int .i64 N)), (37, .val (.int .i64 i))])
    (fun s => [ownS s.2.2.1 s.2.1.length s.2.2.2 63 3 (s.2.1.flatMap encCmd), crdA p q g (a, n, c) s.1, dsk q s.1.D, A]) (fun s => rqM s.1.R s.2.1) (C1, l, xa, xc)
    ⟨I1.mono (by omega), hl1, hch1.trans hch, hf1.trans hf, hr1.trans hring, by rw [hh1, hheld], hrq0, by rw [hll]; omega⟩ ⟨rfl, rfl, rfl, rfl, by rw [hll]; rfl, rfl, rfl, trivial⟩ (by rw [hll]; exact II) ?_
  rintro ⟨C2, out, oa, oc⟩ ⟨I2, hl2, hch2, hf2, hr2, hh2, hq2, ho8⟩
  dsimp only at I2 hl2 hch2 hf2 hr2 hh2 hq2 ho8 ⊢
  cases out with
  | nil =>
    have hov : ROver C2.R ((i : Int) + 1) := by
      rcases hq2 with ⟨hL, ho⟩ | ⟨h, _⟩
      · have h1 := hL.some
        unfold tellL at ho
        exact absurd (List.map_eq_nil_iff.1 ho.symm) h1
      · exact h
    have hmk2 : C2.marked = (i : Int) + 1 := by rw [I2.full hov.full, hov.done]
    repeat (first | refine GD ?_ | refine NW fun _ => ?_)
    refine WL.step rfl (OP.callRO rfl rfl (crounds_ro p q g (a, n, c) C2) (Ent.at (up_crdA _ _ _ _ _) MM) rfl rfl ?_)
    rw [hl2, hov.num, hmk2]
    repeat (first | refine GD ?_ | refine NW fun _ => ?_)
    exact ⟨(i + 1, C2), ⟨by dsimp only; omega, I2, hl2, hch2, hf2, hov.num, hr2, hh2⟩, by dsimp only; omega, ⟨rfl, rfl, rfl, rfl, trivial⟩, II⟩
  | cons cm r =>
    obtain ⟨l3, R3, ha3, hq3, hmu⟩ := hq2.step (by omega) hvR hl4
    have hvl : C2.R.vols.length < 1000000 := by
      rcases hq2 with ⟨hL, _⟩ | ⟨_, ho⟩
      · rw [hL.vols]; omega
      · cases ho
    have hans : answerC C2 cm = .ok (l3, { C2 with R := R3, marked := if R3.complete = true then R3.done else C2.marked }) := by unfold answerC; rw [ha3]
    have hca := canswer_ok p q g (a, n, c) C2 _ cm I2 hvl
    unfold AnswerCo at hca
    rw [hans] at hca
    obtain ⟨I3, e1, e2, e3, e4, e5⟩ := I2.answer hans
    have h3l : (r ++ l3).length ≤ 8 := by
      rcases rq_len hq3 hl4 with h | h
      · omega
      · rw [h]; simp
    have h3l' := h3l
    rw [List.length_append] at h3l'
    refine WC.fact (Ent.some (Ent.own (a := oa) (n := (cm :: r).length) (cap := oc) (T := 63) (size := 3) (cs := (cm :: r).flatMap encCmd) MM) (by simp)) ?_
    rintro ⟨ob, off, rfl⟩
    refine WC.fact (Ent.ownLe (a := some ⟨ob, off, none⟩) (n := (cm :: r).length) (cap := oc) (T := 63) (size := 3) (cs := (cm :: r).flatMap encCmd) MM) (fun hcap => ?_)
    have hclen : (cm :: r).length = r.length + 1 := rfl
    rw [hclen] at *
    have hpos : 0 < ((r.length + 1 : Nat) : Int) := by omega
    repeat (first | refine GD ?_ | refine NW fun _ => ?_)
    refine WL.step rfl (OP.loadA (l := encCmd cm) rfl rfl rfl rfl (Ent.elA (f := encCmd) encCmd_len (k := 0) (l := cm :: r) (Ent.own (T := 63) MM) (by simp)) rfl rfl rfl ?_)
    refine WL.step rfl (OP.call (pre := [crdA p q g _ C2, dsk q C2.D]) rfl rfl hca PS rfl rfl ?_)
    rintro _ _ ⟨_, _, ⟨xa3, xc3, rfl, rfl⟩, rfl, rfl⟩
    generalize hC3 : ({ C2 with R := R3, marked := if R3.complete = true then R3.done else C2.marked } : Crd) = C3 at *
    have hR3 : C3.R = R3 := by rw [← hC3]
    repeat (first | refine GD ?_ | refine NW fun _ => ?_)
    refine WL.step rfl (OP.slice3 (l := 1) (h := r.length + 1) (m := r.length + 1) rfl rfl rfl rfl rfl rfl rfl rfl rfl rfl rfl (by omega) (Nat.le_refl _) hcap rfl rfl ?_)
    repeat (first | refine GD ?_ | refine NW fun _ => ?_)
    refine WL.step rfl (OP.append (cs := r.flatMap encCmd) (ds := l3.flatMap encCmd) rfl rfl rfl rfl rfl rfl rfl rfl rfl (Imp.trans (show Imp _ (ownS (some ⟨ob, off, none⟩) (r.length + 1) oc 63 3 ((cm :: r).flatMap encCmd) :: _) from P1) (Imp.ownCut (cap' := r.length + 1) (l := 1) (by omega) (Nat.le_refl _) hcap)) (Ent.own MM) (cmd_one _) (by omega) (by omega) rfl rfl (fun a' cap' => ?_))
    repeat (first | refine GD ?_ | refine NW fun _ => ?_)
    refine ⟨(C3, r ++ l3, a', cap'), ⟨I3, e1.trans hl2, e2.trans hch2, e3.trans hf2, by rw [e4]; exact hr2, by rw [e4]; exact hh2, hR3 ▸ hq3, h3l⟩, by dsimp only; rw [hR3]; exact hmu, ⟨rfl, rfl, rfl, rfl, by rw [List.length_append]; rfl, rfl, rfl, trivial⟩, ?_⟩
    rw [List.length_append, List.flatMap_append]
    exact II
end Go.Proofs.Ytacgheafbkfciaa
/- Contracts of functions of the given program, and plain laws on what they compute: parts of the proofs of laws. -/

namespace Go.Proofs.Ytacgheafbkfciaa
open Go Go.GL

/-! several lists of numbers in memory -/
abbrev IRow := Option Addr × Nat × List Int
def irowV (x : IRow) : Value := .slice x.1 x.2.2.length x.2.1
def irowO (x : IRow) : Assn := ownS x.1 x.2.2.length x.2.1 3 1 (x.2.2.map vI)
def irowsA (l : List IRow) : Assn := stars (l.map irowO)
theorem up_irowsA (l : List IRow) : Up (irowsA l) := fun _ _ le s => stars_mono le s
theorem irowsA_nil {M : List Assn} : Imp M (irowsA [] :: M) := fun h s => ⟨Hp.empty, h, fun _ => .inl rfl, by funext b; simp [Hp.join, Hp.empty], trivial, s⟩
theorem irowsA_snoc {l : List IRow} {x : IRow} {M : List Assn} : Imp (irowsA l :: irowO x :: M) (irowsA (l ++ [x]) :: M) := fun h s => by
  unfold irowsA
  rw [List.map_append]
  have h1 : stars (l.map irowO ++ (irowO x :: M)) h := stars_append.2 s
  rw [show irowO x :: M = [irowO x] ++ M from rfl, ← List.append_assoc] at h1
  exact stars_append.1 h1
theorem irowsA_get {l : List IRow} {L : List Assn} (m : irowsA l ∈ L) {i : Nat} (hi : i < l.length) : Ent L (readS (l[i]).1 (l[i]).2.2.length 1 ((l[i]).2.2.map vI)) :=
  Ent.mem m (up_irowsA l) fun h s => by
    have hm : irowO l[i] ∈ l.map irowO := List.mem_map.2 ⟨_, List.getElem_mem hi, rfl⟩
    exact read_of_own (stars_mem hm (up_ownS _ _ _ _ _ _) s)
theorem irowsV_get {l : List IRow} {k : Nat} (h : k < l.length) : (l.map irowV)[k * 1]? = some (irowV l[k]) := by simp [h]
/-! a law's call -/
abbrev COp := Int × Int × Cmd × Bool × Bool × Int
def encCo (o : COp) : List Value := [.int .i64 o.1, .int .i64 o.2.1, .int .i64 o.2.2.1.1, .int .i64 o.2.2.1.2.1, .int .i64 o.2.2.1.2.2, .bool o.2.2.2.1, .bool o.2.2.2.2.1, .int .u64 o.2.2.2.2.2]
theorem encCo_len (o : COp) : (encCo o).length = 8 := rfl
theorem cop_of {x : List Value} (h : LfsOk [.int .i64, .int .i64, .int .i64, .int .i64, .int .i64, .bool, .bool, .int .u64] x) : ∃ o : COp, x = encCo o ∧ (0 ≤ o.2.2.2.2.2 ∧ o.2.2.2.2.2 < 18446744073709551616) := by
  obtain ⟨k, s, rfl, _, h⟩ := h.int
  obtain ⟨v, s, rfl, _, h⟩ := h.int
  obtain ⟨c1, s, rfl, _, h⟩ := h.int
  obtain ⟨c2, s, rfl, _, h⟩ := h.int
  obtain ⟨c3, s, rfl, _, h⟩ := h.int
  obtain ⟨b1, s1, rfl, hb1⟩ := h.bool
  obtain ⟨b2, s2, rfl, hb2⟩ := hb1.bool
  obtain ⟨kp, s3, rfl, w, hb3⟩ := hb2.int
  rw [hb3.nil]
  have := wf_u64 w
  exact ⟨(k, v, (c1, c2, c3), b1, b2, kp), rfl, by dsimp only; omega⟩
theorem cut_one (x : Cmd) (r : List Cmd) : ((x :: r).flatMap encCmd).drop (1 * 3) = r.flatMap encCmd := rfl
theorem enter_few {R : Rnd} {p : Int} (h : R.vols.length ≤ 4) : (R.enter p).1.length ≤ 4 := by
  show (tellL (R.fresh p)).length ≤ 4
  unfold tellL
  rw [List.length_map, lacks_fresh]
  exact h
theorem next_few {R : Rnd} (h : R.vols.length ≤ 4) : (nextR R).1.length ≤ 4 := by
  unfold nextR
  split
  · exact enter_few (R := { R with marked := true }) h
  · split
    · exact enter_few h
    · exact Nat.zero_le _
theorem answer_few {R : Rnd} {last : Int} (I : RI R last) {c : Cmd} {l : List Cmd} {R' : Rnd} (h : answerR R c = .ok (l, R')) : l.length ≤ 4 := by
  unfold answerR at h
  split at h
  · cases h
  split at h
  · cases h
  split at h
  · cases h; exact Nat.zero_le _
  · have h2 : (nextR { R with ans := setA R.ans c.2.1 }).1 = l := congrArg Prod.fst (Except.ok.inj h)
    rw [← h2]
    exact next_few (R := { R with ans := setA R.ans c.2.1 }) I.vl
theorem tick_few {C : Crd} {last : Int} (I : RI C.R last) : (tickC C).1.length ≤ 4 := by
  show (tickR C.R).1.length ≤ 4
  unfold tickR
  split
  · exact Nat.zero_le _
  split
  · exact Nat.zero_le _
  split
  · exact enter_few (R := { C.R with left := C.R.left - 1 }) I.vl
  · show (tellL C.R).length ≤ 4
    unfold tellL
    rw [List.length_map]
    exact Nat.le_trans (List.length_filter_le _ _) I.vl
structure OnceI (k : Nat) (f : List Bool) (C : Crd) (rows : List IRow) (told : List Cmd) : Prop where
  I : CInv C (3 + 4 * (k : Int))
  f : C.f = f
  ring : C.J.ring = 200
  len : (rows.length : Int) = C.last
  row : ∀ j (h : j < rows.length), (rows[j]).2.2 = C.mem ((j : Int) + 1)
  told : told.length ≤ 8 * (k + 1)
theorem OnceI.keep {k : Nat} {f : List Bool} {C C2 : Crd} {rows : List IRow} {told told2 : List Cmd} (O : OnceI k f C rows told) (I2 : CInv C2 (3 + 4 * ((k + 1 : Nat) : Int))) (hf : C2.f = C.f) (hl : C2.last = C.last) (hr : C2.J.ring = C.J.ring) (hch : C2.ch = C.ch ∨ ∃ v b, C2.ch = C.ch ++ [(C.last + 1, v, b)]) (ht : told2.length ≤ told.length + 8) : OnceI (k + 1) f C2 rows told2 := by
  refine ⟨I2, hf.trans O.f, hr.trans O.ring, by rw [hl]; exact O.len, fun j h => ?_, by have := O.told; omega⟩
  have hlen := O.len
  rw [O.row j h]
  rcases hch with hch | ⟨v, b, hch⟩
  · exact (CInv.stays (v := 0) (inn := false) hf (.inl hch) (by omega)).symm
  · exact (CInv.stays (v := v) (inn := b) hf (.inr hch) (by omega)).symm
theorem OnceI.begun {k : Nat} {f : List Bool} {C C2 : Crd} {B : Int} {rows : List IRow} {told : List Cmd} (O : OnceI k f C rows told) (hB : B = 3 + 4 * (k : Int)) (hB2 : B + 4 ≤ widest) {n : Int} {l : List Cmd} (h : beginC C = .ok ((n, l), C2)) (x : IRow) (hx : x.2.2 = C.mem n) : OnceI (k + 1) f C2 (rows ++ [x]) l := by
  subst hB
  obtain ⟨I2, hn, hl2, hch, hf, _, _, hr, _, _, hm, hl, _⟩ := O.I.begin hB2 h
  have hlen := O.len
  refine ⟨I2.mono (by omega), hf.trans O.f, hr.trans O.ring, by rw [List.length_append]; show ((rows.length + 1 : Nat) : Int) = _; omega, fun j hj => ?_, ?_⟩
  · have hmem : C2.mem ((j : Int) + 1) = C.mem ((j : Int) + 1) := by unfold Crd.mem; rw [hf, hch]
    rw [hmem]
    by_cases hjl : j < rows.length
    · rw [List.getElem_append_left hjl, O.row j hjl]
    · have hje : j = rows.length := by rw [List.length_append] at hj; have : ([x] : List IRow).length = 1 := rfl; omega
      subst hje
      rw [List.getElem_append_right (Nat.le_refl _)]
      simp only [Nat.sub_self, List.getElem_cons_zero]
      rw [hx, hn, ← hlen]
  · have h4 := listM_len (atM n C.f C.ch)
    rw [atM_length, O.I.f4] at h4
    rw [hl, List.length_map]
    show (listM (atM n C.f C.ch)).length ≤ _
    omega
end Go.Proofs.Ytacgheafbkfciaa
