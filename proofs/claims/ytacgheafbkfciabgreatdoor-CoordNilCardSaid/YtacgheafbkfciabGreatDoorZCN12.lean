/- Contracts of functions of the given program, and plain laws: parts of the proofs of laws. -/
import Derived.Test.YtacgheafbkfciabGreatDoorZCN4
import Derived.Test.YtacgheafbkfciabGreatDoorZCN11
import Derived.Test.YtacgheafbkfciabGreatDoorZCN7
/- Contracts of functions of the given program, and plain laws on what they compute: parts of the proofs of laws. -/

namespace Go.Proofs.YtacgheafbkfciabGreatDoor
open Go Go.GL

set_option maxHeartbeats 4000000 in
set_option maxRecDepth 10000 in
/-- the journal can't be opened -/
theorem cstart_er (p q g : Nat) (R0 : Rnd) (x0 : RHd) (l0 m0 : Int) (ring : Int) (jv : Value) (fv : Fst) (D : Dsk) (hD : D.ok) (hw : D.W.length < 10000) (hr64 : -9223372036854775808 ≤ ring ∧ ring ≤ 9223372036854775807) {c : Int} (ho : openM D ring = .error c) :
    Triple G 30 [.pointer (some ⟨p, 0, none⟩)] [blk p (rndC R0 x0 ++ restC l0 m0 q ring jv fv g) ndT, dsk q D]
      (fun v M => ∃ E, IsEr (some ([(jrnT, ring)], c)) v E ∧ M = E) := by
  refine Triple.enter Tryz.func30 rfl (by decide) rfl Tryz.ntmps30 rfl (fun F => ?_)
  have hop := jopen_ok q D ring hD hw hr64
  unfold OpenJ at hop
  rw [ho] at hop
  unfold rndC restC
  dsimp only [List.cons_append, List.nil_append]
  repeat (first | refine GD ?_ | refine NW fun _ => ?_)
  refine RD 8 14 (_) ?_
  refine WP 0 ?_
  refine WP 1 ?_
  refine WP 2 ?_
  refine VV 3 ?_
  refine WP 4 ?_
  refine WP 5 ?_
  refine WP 6 ?_
  refine VV 7 ?_
  refine WH.only 8 rfl rfl (by kernel_rfl) rfl (OP.call (pre := [dsk q D]) rfl rfl hop PS rfl rfl (fun v M hM => ?_))
  obtain ⟨e, E, hE, rfl, rfl⟩ := hM
  refine ⟨(fun h => nomatch h), ?_⟩
  refine WP 9 ?_
  refine WP 10 ?_
  refine WP 11 ?_
  refine WP 12 ?_
  refine WP 13 ?_
  refine DN ?_
  obtain ⟨ch, hc1, rfl, rfl⟩ := hE
  cases ch with
  | nil => cases hc1
  | cons y ch =>
  dsimp only [valOf]
  repeat (first | refine GD ?_ | refine NW fun _ => ?_)
  refine ret1 rfl ⟨_, ⟨_, ⟨y :: ch, hc1, rfl, rfl⟩, rfl⟩, II⟩
theorem newM_ne0 {l : List Int} {v c : Int} (h : newM l f0 = .error (v, c)) : c ≠ 0 := by
  rcases newM_code h with h | h <;> omega
def OpenCo (q : Nat) (fv : Fst) (V : Assn) (D : Dsk) (ring : Int) (fl : List Int) (v : Value) (M : List Assn) : Prop := match openC D ring fl with
  | .ok C => ∃ p g, v = .tuple #[.pointer (some ⟨p, 0, none⟩), .nilIface] ∧ M = [crdA p q g fv C, dsk q C.D, V]
  | .error (l, c) => ∃ e E, IsEr (some (l, c)) e E ∧ v = .tuple #[.pointer none, e] ∧ M = E ++ [V]
theorem isEr_one {l : List (ByteArray × Int)} {c : Int} {v : Value} {E : List Assn} (h : IsEr (some (l, c)) v E) (hl : l ≠ []) : ∃ y ch, ((y :: ch : Chain).map Prod.snd = l) ∧ v = .iface 108 (.pointer (some ⟨y.1, 0, none⟩)) ∧ E = [chainR (y :: ch) c] := by
  obtain ⟨ch, h1, h2, h3⟩ := h
  cases ch with
  | nil => exact absurd h1.symm hl
  | cons y ch => exact ⟨y, ch, h1, h2, h3⟩
set_option maxHeartbeats 8000000 in
set_option maxRecDepth 10000 in
theorem copen_ok (q : Nat) (ring : Int) (fv : Fst) (D : Dsk) (V : Assn) (hV : Up V) (fl : List Int) (hr : ∀ h, V h → readS fv.1 fv.2.1 1 (fl.map vI) h) (hn : fv.2.1 < 1000000) (hD : D.ok) (hw : D.W.length < 10000) (hr64 : -9223372036854775808 ≤ ring ∧ ring ≤ 9223372036854775807)
    (hJ : ∀ J D', openM D ring = .ok (J, D') → J.rng ∧ ∀ x ∈ J.held, RightR x.2) :
    Triple G 13 [.pointer (some ⟨q, 0, none⟩), .int .i64 ring, .slice fv.1 fv.2.1 fv.2.2] [dsk q D, V] (OpenCo q fv V D ring fl) := by
  refine Triple.enter Tryz.func13 rfl (by decide) rfl Tryz.ntmps13 rfl (fun F => ?_)
  have hE : ∀ {L}, V ∈ L → Ent L (readS fv.1 fv.2.1 1 (fl.map vI)) := fun m => Ent.mem m hV hr
  have hnew := new_ok fv.1 fv.2.1 fv.2.2 fl hn
  have hdef : openC D ring fl = match newM fl f0 with
    | .error (v, c) => .error ([(coordT, 0), (memT, v)], c)
    | .ok f => match openM D ring with
      | .error c => .error ([(coordT, 0), (jrnT, ring)], c)
      | .ok (J, D') => .ok (startC f J D') := rfl
  repeat (first | refine GD ?_ | refine NW fun _ => ?_)
  refine WL.step rfl (OP.callRT rfl rfl hnew (hE MM) rfl rfl ?_)
  intro v E hN
  unfold NewPost at hN
  cases hnw : newM fl f0 with
  | error vc =>
    obtain ⟨bv, c⟩ := vc
    rw [hnw] at hdef
    dsimp only at hdef
    rw [show newM fl [false, false, false, false] = .error (bv, c) from hnw] at hN
    obtain ⟨e, rfl, hF⟩ := hN
    obtain ⟨M', hi, hm⟩ := hF.isEr
    obtain ⟨y, ch, hc1, rfl, rfl⟩ := isEr_one hi (by simp)
    have hwr := cwrong_ok 0 (y :: ch) c (fun h => nomatch h.1)
    dsimp only [valOf] at hwr
    refine WL.imp (Imp.app hm _) ?_
    repeat (first | refine GD ?_ | refine NW fun _ => ?_)
    refine WL.step rfl (OP.call (pre := [chainR (y :: ch) c]) rfl rfl hwr PS rfl rfl ?_)
    intro v M hM
    rw [hc1] at hM
    repeat (first | refine GD ?_ | refine NW fun _ => ?_)
    refine ret2 rfl rfl ⟨M ++ [V], ?_, ?_⟩
    · unfold OpenCo
      rw [hdef]
      exact ⟨v, M, hM, rfl, rfl⟩
    · rw [List.append_assoc]
      exact Imp.appL II _
  | ok f =>
    rw [hnw] at hdef
    dsimp only at hdef
    rw [show newM fl [false, false, false, false] = .ok f from hnw] at hN
    obtain ⟨g, rfl, rfl⟩ := hN
    have hf4 : f.length = 4 := newM_length hnw
    repeat (first | refine GD ?_ | refine NW fun _ => ?_)
    rename_i p
    cases ho : openM D ring with
    | error c =>
      rw [ho] at hdef
      dsimp only at hdef
      have hst := cstart_er p q g rnd0 (none, 0, none) 0 0 ring (.pointer none) fv D hD hw hr64 ho
      unfold rndC restC at hst
      dsimp only [List.cons_append, List.nil_append] at hst
      refine WL.step rfl (OP.call (pre := [blk p _ ndT, dsk q D]) rfl rfl hst PS rfl rfl ?_)
      rintro v _ ⟨E, hEr, rfl⟩
      obtain ⟨y, ch, hc1, rfl, rfl⟩ := isEr_one hEr (by simp)
      have hwr := cwrong_ok 0 (y :: ch) c (fun h => nomatch h.1)
      dsimp only [valOf] at hwr
      repeat (first | refine GD ?_ | refine NW fun _ => ?_)
      refine WL.step rfl (OP.call (pre := [chainR (y :: ch) c]) rfl rfl hwr PS rfl rfl ?_)
      intro v M hM
      rw [hc1] at hM
      repeat (first | refine GD ?_ | refine NW fun _ => ?_)
      refine ret2 rfl rfl ⟨M ++ [V], ?_, ?_⟩
      · unfold OpenCo
        rw [hdef]
        exact ⟨v, M, hM, rfl, rfl⟩
      · rw [List.append_assoc]
        exact Imp.appL II _
    | ok y =>
      obtain ⟨J, D'⟩ := y
      rw [ho] at hdef
      dsimp only at hdef
      obtain ⟨j1, j2⟩ := hJ J D' ho
      have hst := cstart_ok p q g rnd0 (none, 0, none) 0 0 ring (.pointer none) fv f none 0 0 D V hV fl f hr hn hnw hf4 hD hw hr64 ho j1 j2
      unfold rndC restC at hst
      dsimp only [List.cons_append, List.nil_append] at hst
      refine WL.step rfl (OP.call (pre := [blk p _ ndT, blk g (bools f ++ [.slice none 0 0]) grT, dsk q D, V]) rfl rfl hst PS rfl rfl ?_)
      rintro _ _ ⟨rfl, rfl⟩
      repeat (first | refine GD ?_ | refine NW fun _ => ?_)
      refine ret2 rfl rfl ⟨[crdA p q g fv (startC f J D'), dsk q D', V], ?_, Imp.refl _⟩
      unfold OpenCo
      rw [hdef]
      exact ⟨p, g, rfl, rfl⟩
set_option maxHeartbeats 4000000 in
set_option maxRecDepth 10000 in
theorem ccrash_ok (p q g : Nat) (fv : Fst) (C : Crd) (B : Int) (I : CInv C B) (hB : B + 4 ≤ widest) (keep : Int) (hk : 0 ≤ keep ∧ keep < 18446744073709551616) (V : Assn) (hV : Up V) (fl : List Int) (hr : ∀ h, V h → readS fv.1 fv.2.1 1 (fl.map vI) h) (hn : fv.2.1 < 1000000) (hfl : newM fl f0 = .ok C.f) :
    Triple G 11 [.pointer (some ⟨p, 0, none⟩), .int .u64 keep] [crdA p q g fv C, dsk q C.D, V]
      (fun v M => v = .nilIface ∧ ∃ J' D', openM (C.D.crash keep) C.J.ring = .ok (J', D') ∧ J'.ring = C.J.ring ∧ J'.held = C.J.held ∧ startC C.f J' D' = { C with J := J', D := D', R := rnd0, marked := 0 } ∧ CInv { C with J := J', D := D', R := rnd0, marked := 0 } (B + 2) ∧ M = [crdA p q g fv { C with J := J', D := D', R := rnd0, marked := 0 }, dsk q D', V]) := by
  refine Triple.enter Tryz.func11 rfl (by decide) rfl Tryz.ntmps11 rfl (fun F => ?_)
  obtain ⟨J', D', ho, e1, e2, e3, I'⟩ := I.crash hB keep
  have hcw : (C.D.crash keep).W.length < 10000 := by show (0 : Nat) < 10000; decide
  have hring := I.J.ring
  have hst := fun x0 jv a0 n0 c0 => cstart_ok p q g C.R x0 C.last C.marked C.J.ring jv fv C.f a0 n0 c0 (C.D.crash keep) V hV fl C.f hr hn hfl I.f4 (Dsk.settle_ok I.J.dok _) hcw (by omega) ho (I'.J.rng (by omega)) I'.J.right
  have hdc := dcrash_ok q C.D keep hk I.J.dok (by rw [I.W]; decide)
  rw [e3] at hst I'
  refine WC.open (M := [dsk q C.D, V, F]) (Ls := crdL p q g fv C) II (fun j => ?_)
  unfold crdL
  dsimp only [List.cons_append, List.nil_append]
  refine WC.open (M := [jrn j q C.J, grp g C.f C.ch, dsk q C.D, V, F]) (Ls := rndL p ndT (restC C.last C.marked q C.J.ring (.pointer (some ⟨j, 0, none⟩)) fv g) C.R) II (fun x => ?_)
  refine WC.open (M := rndL p ndT (restC C.last C.marked q C.J.ring (.pointer (some ⟨j, 0, none⟩)) fv g) C.R x ++ [jrn j q C.J, dsk q C.D, V, F]) (Ls := fun x : Option Addr × Nat => grpL g x.1 C.ch.length x.2 C.f C.ch) (by unfold rndL; exact II) (fun y => ?_)
  have hst2 := hst x (.pointer (some ⟨j, 0, none⟩)) y.1 C.ch.length y.2
  unfold rndL grpL
  unfold rndC restC at *
  dsimp only [List.cons_append, List.nil_append] at *
  repeat (first | refine GD ?_ | refine NW fun _ => ?_)
  refine WL.step rfl (OP.call (pre := [dsk q C.D]) rfl rfl hdc PS rfl rfl ?_)
  rintro _ _ ⟨rfl, rfl⟩
  repeat (first | refine GD ?_ | refine NW fun _ => ?_)
  refine WL.step rfl (OP.call (pre := [blk p _ ndT, blk g (bools C.f ++ [.slice y.1 C.ch.length y.2]) grT, dsk q (C.D.crash keep), V]) rfl rfl hst2 PS rfl rfl ?_)
  rintro _ _ ⟨rfl, rfl⟩
  repeat (first | refine GD ?_ | refine NW fun _ => ?_)
  refine WL.step rfl (OP.callRO rfl rfl (cwrong_nil 0) (fun _ _ => trivial) rfl rfl ?_)
  repeat (first | refine GD ?_ | refine NW fun _ => ?_)
  exact ret1 rfl ⟨[crdA p q g fv { C with J := J', D := D', R := rnd0, marked := 0 }, dsk q D', V], ⟨rfl, J', D', ho, e1, e2, e3, I', rfl⟩, II⟩
end Go.Proofs.YtacgheafbkfciabGreatDoor
/- Contracts of functions of the given program, and plain laws on what they compute: parts of the proofs of laws. -/

namespace Go.Proofs.YtacgheafbkfciabGreatDoor
open Go Go.GL

set_option maxRecDepth 10000 in
theorem cwrong1_ok (at_ c : Int) (h : c ≠ 0) : Triple G 16 [.int .i64 at_, .iface 49 (.int .i64 c)] [] (IsEr (some ([(coordT, at_)], c))) := by
  refine Triple.enter Tryz.func16 rfl (by decide) rfl Tryz.ntmps16 rfl (fun F => ?_)
  repeat (first | refine GO ?_ | refine NW fun _ => ?_)
  refine WL.step rfl (OP.call (pre := []) rfl rfl (wrap_ok coordT at_ c h) PS rfl rfl ?_)
  intro v M hM
  obtain ⟨M', h1, h2⟩ := hM.isEr
  repeat (first | refine GO ?_ | refine NW fun _ => ?_)
  exact ret1 rfl ⟨M', h1, Imp.app h2 _⟩
theorem rnd_rest {p : Nat} {T : TypeId} {rest : List Value} {R : Rnd} {L : List Assn} (m : rnd p T rest R ∈ L) {i : Nat} {v : Value} (hv : rest[i]? = some v) : Ent L (cellAt p (9 + i) v) :=
  Ent.mem m (up_rnd _ _ _ _) fun h ⟨x, s⟩ => by
    have hc := (Ent.whole (b := p) (c := rndC R x ++ rest) (T := T) (List.Mem.head _)) h s
    have := cellsAt_one (i := 9 + i) hc (by
      rw [List.getElem?_append_right (by show 9 ≤ 9 + i; omega)]
      show rest[9 + i - 9]? = some v
      rw [show 9 + i - 9 = i by omega]; exact hv)
    rwa [Nat.zero_add] at this
/-- the cells of a round's block: opened, changed in the rest, and closed -/
theorem CInv.jr {C : Crd} {B : Int} (I : CInv C B) (hB : B + 4 ≤ widest) : C.J.rng := I.J.rng (by omega)
def BeginCo (p q g : Nat) (fv : Fst) (C : Crd) (v : Value) (M : List Assn) : Prop := match beginC C with
  | .ok ((n, l), C') => ∃ x E, CmdsA l x E ∧ v = .tuple #[.int .i64 n, x, .nilIface] ∧ M = E ++ [crdA p q g fv C', dsk q C'.D]
  | .error (l, c) => ∃ e E, IsEr (some (l, c)) e E ∧ v = .tuple #[.int .i64 0, .slice none 0 0, e] ∧ M = E ++ [crdA p q g fv C, dsk q C.D]
set_option maxHeartbeats 8000000 in
set_option maxRecDepth 10000 in
theorem cbegin_ok (p q g : Nat) (fv : Fst) (C : Crd) (B : Int) (I : CInv C B) (hB : B + 4 ≤ widest) :
    Triple G 5 [.pointer (some ⟨p, 0, none⟩)] [crdA p q g fv C, dsk q C.D] (BeginCo p q g fv C) := by
  refine Triple.enter Tryz.func5 rfl (by decide) rfl Tryz.ntmps5 rfl (fun F => ?_)
  have hdef : beginC C = if C.R.number ≠ 0 then .error ([(coordT, C.last + 1)], 9) else if C.mem (C.last + 1) = [] then .error ([(coordT, C.last + 1)], 8)
    else match appendM C.J C.D (markR (C.last + 1)) with
    | .error c => .error ((coordT, C.last + 1) :: appEr C.J c, c)
    | .ok (J', D') => .ok ((C.last + 1, (C.R.start (C.last + 1) (C.mem (C.last + 1))).1), { C with J := J', D := D'.flush, last := C.last + 1, R := (C.R.start (C.last + 1) (C.mem (C.last + 1))).2 }) := rfl
  have hnum := I.num
  have hlast := I.last
  have hww : widest = 1152921504606846975 := rfl
  refine WC.open (M := [dsk q C.D, F]) (Ls := crdL p q g fv C) II (fun j => ?_)
  unfold crdL
  dsimp only [List.cons_append, List.nil_append]
  have hdn := cdown_ro p C.R C.last C.marked q C.J.ring j fv g
  have hgt := gat_rt g C.f C.ch (C.last + 1) I.f4 I.vols I.few
  have hap := jappend_ok j q C.J C.D (markR (C.last + 1)) (I.jr hB) I.J.ring.2.2 (by rw [I.W]; decide) (by show (0 : Nat) < 1000000; decide)
  rw [show listM (atM (C.last + 1) C.f C.ch) = C.mem (C.last + 1) from rfl] at hgt
  have hm4 : (C.mem (C.last + 1)).length ≤ 4 := by
    have := listM_len (atM (C.last + 1) C.f C.ch)
    rw [atM_length, I.f4] at this
    exact this
  have hmr : C.mem (C.last + 1) ≠ [] → RightV (C.mem (C.last + 1)) := fun h => rightV_list (by rw [atM_length]; exact I.f4) h
  generalize hmem : C.mem (C.last + 1) = mm at *
  repeat (first | refine GD ?_ | refine NW fun _ => ?_)
  refine WL.step rfl (OP.callRO rfl rfl hdn (Ent.at (up_rnd _ _ _ _) MM) rfl rfl ?_)
  repeat (first | refine GD ?_ | refine NW fun _ => ?_)
  refine WL.step rfl (OP.load1 (v := .int .i64 C.last) rfl rfl rfl rfl (rnd_rest (i := 0) (R := C.R) (T := ndT) MM rfl) rfl rfl ?_)
  repeat (first | refine GD ?_ | refine NW fun _ => ?_)
  refine WL.step rfl (OP.load1 (v := .pointer (some ⟨g, 0, none⟩)) rfl rfl rfl rfl (rnd_rest (i := 6) (R := C.R) (T := ndT) MM rfl) rfl rfl ?_)
  repeat (first | refine GD ?_ | refine NW fun _ => ?_)
  refine WL.step rfl (OP.callRT rfl rfl hgt (Ent.at (up_grp _ _ _) MM) rfl rfl ?_)
  rintro _ _ ⟨aM, cM, rfl, rfl⟩
  repeat (first | refine GD ?_ | refine NW fun _ => ?_)
  refine WL.step rfl (OP.callRO rfl rfl (rnumber_ro p ndT _ C.R) (Ent.at (up_rnd _ _ _ _) MM) rfl rfl ?_)
  by_cases h0 : C.R.number ≠ 0
  · have hop : beginC C = .error ([(coordT, C.last + 1)], 9) := by rw [hdef, if_pos h0]
    repeat (first | refine GD ?_ | refine NW fun _ => ?_)
    refine WL.step rfl (OP.call (pre := []) rfl rfl (cwrong1_ok (C.last + 1) 9 (by decide)) PS rfl rfl ?_)
    intro v M hM
    repeat (first | refine GD ?_ | refine NW fun _ => ?_)
    refine ret3 rfl rfl rfl ⟨M ++ [crdA p q g fv C, dsk q C.D], ?_, ?_⟩
    · unfold BeginCo
      rw [hop]
      exact ⟨v, M, hM, rfl, rfl⟩
    · rw [List.append_assoc]
      refine Imp.appL ?_ _
      exact Imp.trans II (Imp.trans (crdFold p q g fv C j (N := [dsk q C.D, F])) II)
  rw [if_neg h0] at hdef
  have h0 : C.R.number = 0 := Decidable.not_not.1 h0
  by_cases h1 : mm = []
  · have hop : beginC C = .error ([(coordT, C.last + 1)], 8) := by rw [hdef, if_pos h1]
    have hl0 : mm.length = 0 := by rw [h1]; rfl
    repeat (first | refine GD ?_ | refine NW fun _ => ?_)
    refine WL.step rfl (OP.call (pre := []) rfl rfl (cwrong1_ok (C.last + 1) 8 (by decide)) PS rfl rfl ?_)
    intro v M hM
    repeat (first | refine GD ?_ | refine NW fun _ => ?_)
    refine ret3 rfl rfl rfl ⟨M ++ [crdA p q g fv C, dsk q C.D], ?_, ?_⟩
    · unfold BeginCo
      rw [hop]
      exact ⟨v, M, hM, rfl, rfl⟩
    · rw [List.append_assoc]
      refine Imp.appL ?_ _
      exact Imp.trans II (Imp.trans (crdFold p q g fv C j (N := [dsk q C.D, F])) II)
  rw [if_neg h1] at hdef
  have hl1 : 0 < mm.length := List.length_pos_iff.2 h1
  have hrb := I.R.begin h0 (hmr h1)
  repeat (first | refine GD ?_ | refine NW fun _ => ?_)
  refine WL.step rfl (OP.load1 (v := .pointer (some ⟨j, 0, none⟩)) rfl rfl rfl rfl (rnd_rest (i := 4) (R := C.R) (T := ndT) MM rfl) rfl rfl ?_)
  repeat (first | refine GD ?_ | refine NW fun _ => ?_)
  unfold AppJ at hap
  cases happ : appendM C.J C.D (markR (C.last + 1)) with
  | error c =>
    rw [happ] at hap hdef
    dsimp only at hap hdef
    refine WL.step rfl (OP.call (pre := [jrn j q C.J, dsk q C.D]) rfl rfl hap PS rfl rfl ?_)
    rintro v M ⟨e, E, hEr, rfl, rfl⟩
    obtain ⟨y, ch, hc1, rfl, rfl⟩ := isEr_one hEr (by unfold appEr; split <;> simp)
    have hwr := cwrong_ok (C.last + 1) (y :: ch) c (fun h => nomatch h.1)
    dsimp only [valOf] at hwr
    repeat (first | refine GD ?_ | refine NW fun _ => ?_)
    refine WL.step rfl (OP.call (pre := [chainR (y :: ch) c]) rfl rfl hwr PS rfl rfl ?_)
    intro v M hM
    rw [hc1] at hM
    repeat (first | refine GD ?_ | refine NW fun _ => ?_)
    refine ret3 rfl rfl rfl ⟨M ++ [crdA p q g fv C, dsk q C.D], ?_, ?_⟩
    · unfold BeginCo
      rw [hdef]
      exact ⟨v, M, hM, rfl, rfl⟩
    · rw [List.append_assoc]
      refine Imp.appL ?_ _
      exact Imp.trans II (Imp.trans (crdFold p q g fv C j (N := [dsk q C.D, F])) II)
  | ok y =>
    obtain ⟨J', D'⟩ := y
    rw [happ] at hap hdef
    dsimp only at hap hdef
    obtain ⟨Ja, _, er, _⟩ := I.J.append happ
    refine WL.step rfl (OP.call (pre := [jrn j q C.J, dsk q C.D]) rfl rfl hap PS rfl rfl ?_)
    rintro _ _ ⟨rfl, rfl⟩
    repeat (first | refine GD ?_ | refine NW fun _ => ?_)
    refine WL.step rfl (OP.load1 (v := .pointer (some ⟨j, 0, none⟩)) rfl rfl rfl rfl (rnd_rest (i := 4) (R := C.R) (T := ndT) MM rfl) rfl rfl ?_)
    repeat (first | refine GD ?_ | refine NW fun _ => ?_)
    refine WL.step rfl (OP.call (pre := [jrn j q J', dsk q D']) rfl rfl (jflush_ok j q J' D' Ja.dok Ja.few) PS rfl rfl ?_)
    rintro _ _ ⟨rfl, rfl⟩
    refine WL.open (M := [jrn j q J', dsk q D'.flush, ownS aM mm.length cM 3 1 (mm.map vI), grp g C.f C.ch, F]) (Ls := rndL p ndT (restC C.last C.marked q C.J.ring (.pointer (some ⟨j, 0, none⟩)) fv g) C.R) II (fun x => ?_)
    have hback := fun (l : Int) (N : List Assn) => rndFold p ndT (restC l C.marked q C.J.ring (.pointer (some ⟨j, 0, none⟩)) fv g) C.R x (N := N)
    have hrr := rbegin_ok p ndT (restC (C.last + 1) C.marked q C.J.ring (.pointer (some ⟨j, 0, none⟩)) fv g) C.R (C.last + 1) aM mm.length cM mm (ownS aM mm.length cM 3 1 (mm.map vI)) (up_ownS _ _ _ _ _ _) (fun _ h => read_of_own h) rfl (by omega)
    unfold RBegin at hrr
    rw [hrb] at hrr
    unfold rndL
    unfold rndC restC
    dsimp only [List.cons_append, List.nil_append]
    repeat (first | refine GD ?_ | refine NW fun _ => ?_)
    refine WL.imp (M := [rnd p ndT (restC (C.last + 1) C.marked q C.J.ring (.pointer (some ⟨j, 0, none⟩)) fv g) C.R, ownS aM mm.length cM 3 1 (mm.map vI), jrn j q J', dsk q D'.flush, grp g C.f C.ch, F]) (Imp.trans II (Imp.trans (hback (C.last + 1) [ownS aM mm.length cM 3 1 (mm.map vI), jrn j q J', dsk q D'.flush, grp g C.f C.ch, F]) (Imp.refl _))) ?_
    generalize C.R.start (C.last + 1) mm = st at *
    obtain ⟨cs, R'⟩ := st
    dsimp only at hrr hdef
    refine WL.step rfl (OP.call (pre := [rnd p ndT (restC (C.last + 1) C.marked q C.J.ring (.pointer (some ⟨j, 0, none⟩)) fv g) C.R, ownS aM mm.length cM 3 1 (mm.map vI)]) rfl rfl hrr PS rfl rfl ?_)
    rintro _ _ ⟨_, ⟨x2, E, hC, rfl, rfl⟩, rfl⟩
    repeat (first | refine GD ?_ | refine NW fun _ => ?_)
    refine WL.step rfl (OP.callRO rfl rfl (cwrong_nil (C.last + 1)) (fun _ _ => trivial) rfl rfl ?_)
    repeat (first | refine GD ?_ | refine NW fun _ => ?_)
    refine ret3 rfl rfl rfl ⟨E ++ [crdA p q g fv { C with J := J', D := D'.flush, last := C.last + 1, R := R' }, dsk q D'.flush], ?_, ?_⟩
    · unfold BeginCo
      rw [hdef]
      exact ⟨x2, E, hC, rfl, rfl⟩
    · rw [List.append_assoc, List.append_assoc, List.append_assoc]
      refine Imp.appL ?_ _
      have hf := crdFold p q g fv { C with J := J', D := D'.flush, last := C.last + 1, R := R' } j (N := [dsk q D'.flush, F])
      dsimp only at hf
      rw [er] at hf
      exact Imp.trans II (Imp.trans hf II)
end Go.Proofs.YtacgheafbkfciabGreatDoor
/- Contracts of functions of the given program, and plain laws on what they compute: parts of the proofs of laws. -/

namespace Go.Proofs.YtacgheafbkfciabGreatDoor
open Go Go.GL

def AnswerCo (p q g : Nat) (fv : Fst) (C : Crd) (c : Cmd) (v : Value) (M : List Assn) : Prop := match answerC C c with
  | .ok (l, C') => ∃ x E, CmdsA l x E ∧ v = .tuple #[x, .nilIface] ∧ M = E ++ [crdA p q g fv C', dsk q C'.D]
  | .error (l, c) => ∃ e E, IsEr (some (l, c)) e E ∧ v = .tuple #[.slice none 0 0, e] ∧ M = E ++ [crdA p q g fv C, dsk q C.D]
theorem WL.storeRest {N : Nat} {env : Env} {L M : List Assn} {k : Kont} {ops : Array Oper} {rs : List Oper} {o : Oper} {p : Nat} {T : TypeId} {rest rest2 : List Value} {R : Rnd} {t : TypeId} {x y : Operand} {i off : Nat} {ti : TI} {v : Value}
    (hg : o.guard = none) (ho : o.op = .store t x y) (hx : rd none env x = some (none, .pointer (some ⟨p, off, none⟩))) (hy : rd none env y = some (none, v)) (ht : G.T.find t = some ti) (hv : cellsOf v = some [v]) (h1 : one v = true) (hl : 1 = ti.size) (hd : o.dst = none)
    (hoff : off = 9 + i) (hset : setOne rest i v = some rest2) (hi : Imp L (rnd p T rest R :: M)) (h : WL G N ops rs env (rnd p T rest2 R :: M) k) : WL G N ops (o :: rs) env L k := by
  refine WL.open hi (fun z => ?_)
  refine WL.step hg (OP.store (M := blk p (rndC R z ++ rest2) T :: ownS z.1 R.vols.length z.2.1 3 1 (R.vols.map vI) :: ansO R.ans R.number z.2.2 :: M) ho hx hy ht hv (by simp [allOne, h1]) (by simpa using hl) (UpdM.here ?_) hd ?_)
  · rw [hoff, show 9 + i = i + 9 from Nat.add_comm _ _]
    simp only [setMany, rndC, List.cons_append, List.nil_append, setOne, hset]
  · exact WL.imp (rndFold p T rest2 R z) h
set_option maxHeartbeats 8000000 in
set_option maxRecDepth 10000 in
theorem canswer_ok (p q g : Nat) (fv : Fst) (C : Crd) (B : Int) (c : Cmd) (I : CInv C B) (hvl : C.R.vols.length < 1000000) :
    Triple G 6 [.pointer (some ⟨p, 0, none⟩), .agg (encCmd c).toArray] [crdA p q g fv C, dsk q C.D] (AnswerCo p q g fv C c) := by
  refine Triple.enter Tryz.func6 rfl (by decide) rfl Tryz.ntmps6 rfl (fun F => ?_)
  obtain ⟨kd, vol, num⟩ := c
  have hdef : answerC C (kd, vol, num) = match answerR C.R (kd, vol, num) with
    | .error e => .error ([(coordT, num), (roundT, num)], e)
    | .ok (l, R') => .ok (l, { C with R := R', marked := if R'.complete = true then R'.done else C.marked }) := rfl
  refine WC.open (M := [dsk q C.D, F]) (Ls := crdL p q g fv C) II (fun j => ?_)
  unfold crdL
  dsimp only [List.cons_append, List.nil_append]
  have hdn := cdown_ro p C.R C.last C.marked q C.J.ring j fv g
  have hra := ranswer_ok p ndT (restC C.last C.marked q C.J.ring (.pointer (some ⟨j, 0, none⟩)) fv g) C.R (kd, vol, num) hvl (fun h => (I.R.vols h).2)
  unfold RAnswer at hra
  rw [show encCmd (kd, vol, num) = [.int .i64 kd, .int .i64 vol, .int .i64 num] from rfl] at *
  repeat (first | refine GD ?_ | refine NW fun _ => ?_)
  refine WL.step rfl (OP.callRO rfl rfl hdn (Ent.at (up_rnd _ _ _ _) MM) rfl rfl ?_)
  repeat (first | refine GD ?_ | refine NW fun _ => ?_)
  cases hop : answerR C.R (kd, vol, num) with
  | error e =>
    rw [hop] at hra hdef
    dsimp only at hra hdef
    refine RD 5 11 (_) ?_
    refine WP 0 ?_
    refine WP 1 ?_
    refine WP 2 ?_
    refine WP 3 ?_
    refine VV 4 ?_
    refine WH.only 5 rfl rfl (by kernel_rfl) rfl (OP.call (pre := [rnd p ndT _ C.R]) rfl rfl hra PS rfl rfl (fun v M hM => ?_))
    obtain ⟨er, E, hEr, rfl, rfl⟩ := hM
    obtain ⟨y, ch, hc1, rfl, rfl⟩ := isEr_one hEr (by simp)
    refine ⟨(fun h => nomatch h), ?_⟩
    refine WP 6 ?_
    refine WP 7 ?_
    refine WP 8 ?_
    refine WP 9 ?_
    refine WP 10 ?_
    refine DN ?_
    have hwr := cwrong_ok num (y :: ch) e (fun h => nomatch h.1)
    dsimp only [valOf] at hwr
    repeat (first | refine GD ?_ | refine NW fun _ => ?_)
    refine WL.step rfl (OP.callRO rfl rfl (rdone_ro p ndT _ C.R) (Ent.at (up_rnd _ _ _ _) MM) rfl rfl ?_)
    have hfin : Imp [rnd p ndT (restC C.last C.marked q C.J.ring (.pointer (some ⟨j, 0, none⟩)) fv g) C.R, jrn j q C.J, grp g C.f C.ch, dsk q C.D, F] [crdA p q g fv C, dsk q C.D, F] := crdFold p q g fv C j (N := [dsk q C.D, F])
    cases hcm : C.R.complete with
    | false =>
      repeat (first | refine GD ?_ | refine NW fun _ => ?_)
      refine WL.step rfl (OP.call (pre := [chainR (y :: ch) e]) rfl rfl hwr PS rfl rfl ?_)
      intro v M hM
      rw [hc1] at hM
      repeat (first | refine GD ?_ | refine NW fun _ => ?_)
      refine ret2 rfl rfl ⟨M ++ [crdA p q g fv C, dsk q C.D], ?_, ?_⟩
      · unfold AnswerCo
        rw [hdef]
        exact ⟨v, M, hM, rfl, rfl⟩
      · rw [List.append_assoc]
        refine Imp.appL ?_ _
        exact Imp.trans II hfin
    | true =>
      have hmk := I.full hcm
      repeat refine GS ?_
      refine WL.storeRest (R := C.R) (T := ndT) (i := 1) rfl rfl rfl rfl rfl rfl rfl rfl rfl rfl rfl P1 ?_
      rw [← hmk]
      repeat (first | refine GD ?_ | refine NW fun _ => ?_)
      refine WL.step rfl (OP.call (pre := [chainR (y :: ch) e]) rfl rfl hwr PS rfl rfl ?_)
      intro v M hM
      rw [hc1] at hM
      repeat (first | refine GD ?_ | refine NW fun _ => ?_)
      refine ret2 rfl rfl ⟨M ++ [crdA p q g fv C, dsk q C.D], ?_, ?_⟩
      · unfold AnswerCo
        rw [hdef]
        exact ⟨v, M, hM, rfl, rfl⟩
      · rw [List.append_assoc]
        refine Imp.appL ?_ _
        exact Imp.trans II hfin
  | ok y =>
    obtain ⟨l, R'⟩ := y
    rw [hop] at hra hdef
    dsimp only at hra hdef
    refine RD 5 11 (_) ?_
    refine WP 0 ?_
    refine WP 1 ?_
    refine WP 2 ?_
    refine WP 3 ?_
    refine VV 4 ?_
    refine WH.only 5 rfl rfl (by kernel_rfl) rfl (OP.call (pre := [rnd p ndT _ C.R]) rfl rfl hra PS rfl rfl (fun v M hM => ?_))
    obtain ⟨x, E, hC, rfl, rfl⟩ := hM
    obtain ⟨xa, xc, rfl, rfl⟩ := hC
    refine ⟨(fun h => nomatch h), ?_⟩
    refine WP 6 ?_
    refine WP 7 ?_
    refine WP 8 ?_
    refine WP 9 ?_
    refine WP 10 ?_
    refine DN ?_
    repeat (first | refine GD ?_ | refine NW fun _ => ?_)
    refine WL.step rfl (OP.callRO rfl rfl (rdone_ro p ndT _ R') (Ent.at (up_rnd _ _ _ _) MM) rfl rfl ?_)
    cases hcm : R'.complete with
    | false =>
      rw [hcm] at hdef
      repeat (first | refine GD ?_ | refine NW fun _ => ?_)
      refine WL.step rfl (OP.callRO rfl rfl (cwrong_nil num) (fun _ _ => trivial) rfl rfl ?_)
      repeat (first | refine GD ?_ | refine NW fun _ => ?_)
      refine ret2 rfl rfl ⟨[ownS xa l.length xc 34 3 (l.flatMap encCmd)] ++ [crdA p q g fv { C with R := R', marked := C.marked }, dsk q C.D], ?_, ?_⟩
      · unfold AnswerCo
        rw [hdef, if_neg (by decide)]
        exact ⟨_, _, ⟨xa, xc, rfl, rfl⟩, rfl, rfl⟩
      · have hf := crdFold p q g fv { C with R := R', marked := C.marked } j (N := [ownS xa l.length xc 34 3 (l.flatMap encCmd), dsk q C.D, F])
        dsimp only at hf
        exact Imp.trans II (Imp.trans hf II)
    | true =>
      rw [hcm] at hdef
      repeat refine GS ?_
      refine WL.storeRest (R := R') (T := ndT) (i := 1) rfl rfl rfl rfl rfl rfl rfl rfl rfl rfl rfl P1 ?_
      repeat (first | refine GD ?_ | refine NW fun _ => ?_)
      refine WL.step rfl (OP.callRO rfl rfl (cwrong_nil num) (fun _ _ => trivial) rfl rfl ?_)
      repeat (first | refine GD ?_ | refine NW fun _ => ?_)
      refine ret2 rfl rfl ⟨[ownS xa l.length xc 34 3 (l.flatMap encCmd)] ++ [crdA p q g fv { C with R := R', marked := R'.done }, dsk q C.D], ?_, ?_⟩
      · unfold AnswerCo
        rw [hdef, if_pos rfl]
        exact ⟨_, _, ⟨xa, xc, rfl, rfl⟩, rfl, rfl⟩
      · have hf := crdFold p q g fv { C with R := R', marked := R'.done } j (N := [ownS xa l.length xc 34 3 (l.flatMap encCmd), dsk q C.D, F])
        dsimp only at hf
        exact Imp.trans II (Imp.trans hf II)
set_option maxHeartbeats 4000000 in
set_option maxRecDepth 10000 in
theorem ctick_ok (p q g : Nat) (fv : Fst) (C : Crd) (B : Int) (I : CInv C B) (hvl : C.R.vols.length < 1000000) :
    Triple G 8 [.pointer (some ⟨p, 0, none⟩)] [crdA p q g fv C] (fun v M => ∃ E, CmdsA (tickC C).1 v E ∧ M = E ++ [crdA p q g fv (tickC C).2]) := by
  refine Triple.enter Tryz.func8 rfl (by decide) rfl Tryz.ntmps8 rfl (fun F => ?_)
  refine WC.open (M := [F]) (Ls := crdL p q g fv C) II (fun j => ?_)
  unfold crdL
  dsimp only [List.cons_append, List.nil_append]
  have hdn := cdown_ro p C.R C.last C.marked q C.J.ring j fv g
  have htk := rtick_ok p ndT (restC C.last C.marked q C.J.ring (.pointer (some ⟨j, 0, none⟩)) fv g) C.R hvl I.R.left
  repeat (first | refine GD ?_ | refine NW fun _ => ?_)
  refine WL.step rfl (OP.callRO rfl rfl hdn (Ent.at (up_rnd _ _ _ _) MM) rfl rfl ?_)
  repeat (first | refine GD ?_ | refine NW fun _ => ?_)
  refine WL.step rfl (OP.call (pre := [rnd p ndT _ C.R]) rfl rfl htk PS rfl rfl ?_)
  rintro v _ ⟨E, hE, rfl⟩
  repeat (first | refine GD ?_ | refine NW fun _ => ?_)
  refine ret1 rfl ⟨E ++ [crdA p q g fv (tickC C).2], ⟨E, hE, rfl⟩, ?_⟩
  rw [List.append_assoc, List.append_assoc]
  refine Imp.appL ?_ _
  exact crdFold p q g fv (tickC C).2 j (N := [F])
set_option maxHeartbeats 4000000 in
set_option maxRecDepth 10000 in
theorem crounds_ro (p q g : Nat) (fv : Fst) (C : Crd) : RO G 7 [.pointer (some ⟨p, 0, none⟩)] (crdA p q g fv C) (.tuple #[.int .i64 C.last, .int .i64 C.R.number, .int .i64 C.marked]) := by
  refine RO.enterEx Tryz.func7 rfl (by decide) rfl Tryz.ntmps7 rfl (fun j A hu hA => ?_)
  have hR : ∀ {L}, A ∈ L → Ent L (rnd p ndT (restC C.last C.marked q C.J.ring (.pointer (some ⟨j, 0, none⟩)) fv g) C.R) := fun m => Ent.of hu hA m (Ent.at (up_rnd _ _ _ _) (List.Mem.head _))
  have hC : ∀ {L} {i : Nat} {v : Value}, A ∈ L → (restC C.last C.marked q C.J.ring (.pointer (some ⟨j, 0, none⟩)) fv g)[i]? = some v → Ent L (cellAt p (9 + i) v) := fun m hv => Ent.of hu hA m (rnd_rest (R := C.R) (T := ndT) (List.Mem.head _) hv)
  have hdn := cdown_ro p C.R C.last C.marked q C.J.ring j fv g
  repeat (first | refine GD ?_ | refine NW fun _ => ?_)
  refine WL.step rfl (OP.callRO rfl rfl hdn (hR MM) rfl rfl ?_)
  repeat (first | refine GD ?_ | refine NW fun _ => ?_)
  refine RD 18 18 (_) ?_
  refine WP 0 ?_
  refine WP 1 ?_
  refine WP 2 ?_
  refine WP 3 ?_
  refine VL 4 (.int .i64 C.last) rfl rfl rfl rfl (.inl ⟨rfl, hC (i := 0) MM rfl⟩) ?_
  refine WP 5 ?_
  refine WP 6 ?_
  refine WP 7 ?_
  refine WP 8 ?_
  refine WP 10 ?_
  refine WP 11 ?_
  refine WP 12 ?_
  refine WP 13 ?_
  refine VL 14 (.int .i64 C.marked) rfl rfl rfl rfl (.inl ⟨rfl, hC (i := 1) MM rfl⟩) ?_
  refine WH.only 9 rfl rfl (by kernel_rfl) rfl (OP.callRO rfl rfl (rnumber_ro p ndT _ C.R) (hR MM) rfl rfl ⟨fun _ => II, ?_⟩)
  refine WP 15 ?_
  refine WP 16 ?_
  refine WP 17 ?_
  refine DN ?_
  repeat (first | refine GD ?_ | refine NW fun _ => ?_)
  exact ret3 rfl rfl rfl ⟨rfl, MM⟩
set_option maxRecDepth 10000 in
theorem cgroup_ro (p q g : Nat) (fv : Fst) (C : Crd) : RO G 12 [.pointer (some ⟨p, 0, none⟩)] (crdA p q g fv C) (.pointer (some ⟨g, 0, none⟩)) := by
  refine RO.enterEx Tryz.func12 rfl (by decide) rfl Tryz.ntmps12 rfl (fun j A hu hA => ?_)
  have hC : ∀ {L} {i : Nat} {v : Value}, A ∈ L → (restC C.last C.marked q C.J.ring (.pointer (some ⟨j, 0, none⟩)) fv g)[i]? = some v → Ent L (cellAt p (9 + i) v) := fun m hv => Ent.of hu hA m (rnd_rest (R := C.R) (T := ndT) (List.Mem.head _) hv)
  repeat (first | refine GD ?_ | refine NW fun _ => ?_)
  refine WL.step rfl (OP.load1 (v := .pointer (some ⟨g, 0, none⟩)) rfl rfl rfl rfl (hC (i := 6) MM rfl) rfl rfl ?_)
  repeat (first | refine GD ?_ | refine NW fun _ => ?_)
  exact ret1 rfl ⟨rfl, MM⟩
/-- the group of a coordinator -/
theorem crd_grp {p q g : Nat} {fv : Fst} {C : Crd} {L : List Assn} (m : crdA p q g fv C ∈ L) : Ent L (grp g C.f C.ch) := Ent.mem m (up_crdA _ _ _ _ _) fun h ⟨j, s⟩ => (Ent.at (A := grp g C.f C.ch) (up_grp _ _ _) (by unfold crdL; exact MM)) h s
end Go.Proofs.YtacgheafbkfciabGreatDoor
/- Contracts of functions of the given program, and plain laws on what they compute: parts of the proofs of laws. -/

namespace Go.Proofs.YtacgheafbkfciabGreatDoor
open Go Go.GL

def ChangeCo (p q g : Nat) (fv : Fst) (C : Crd) (vol : Int) (inn : Bool) (v : Value) (M : List Assn) : Prop := match changeC C vol inn with
  | .ok C' => v = .nilIface ∧ M = [crdA p q g fv C', dsk q C'.D]
  | .error (l, c) => ∃ E, IsEr (some (l, c)) v E ∧ M = E ++ [crdA p q g fv C, dsk q C.D]
theorem member_memT : member = memT := rfl
set_option maxHeartbeats 8000000 in
set_option maxRecDepth 10000 in
theorem cchg_ok (p q g : Nat) (fv : Fst) (C : Crd) (B : Int) (vol : Int) (inn : Bool) (I : CInv C B) (hB : B + 4 ≤ widest) :
    Triple G 10 [.pointer (some ⟨p, 0, none⟩), .int .i64 vol, .bool inn] [crdA p q g fv C, dsk q C.D] (ChangeCo p q g fv C vol inn) := by
  refine Triple.enter Tryz.func10 rfl (by decide) rfl Tryz.ntmps10 rfl (fun F => ?_)
  have hww : widest = 1152921504606846975 := rfl
  have hnum := I.num
  have hlast := I.last
  have hdef : changeC C vol inn = if C.J.held.length = C.J.ring then .error ([(coordT, vol)], 6)
    else match putM C.f C.ch (C.last + 1, vol, !inn) with
    | some c => .error ([(coordT, vol), (memT, vol)], c)
    | none => match appendM C.J C.D (chgR vol inn) with
      | .error c => .error ((coordT, vol) :: appEr C.J c, c)
      | .ok (J', D') => .ok { C with J := J', D := D'.flush, ch := C.ch ++ [(C.last + 1, vol, !inn)] } := rfl
  refine WC.open (M := [dsk q C.D, F]) (Ls := crdL p q g fv C) II (fun j => ?_)
  unfold crdL
  dsimp only [List.cons_append, List.nil_append]
  have hdn := cdown_ro p C.R C.last C.marked q C.J.ring j fv g
  have hroom := jroom_ro j q C.J (I.jr hB)
  have hcg := cchange_ok p C.R C.last C.marked q C.J.ring (.pointer (some ⟨j, 0, none⟩)) fv g C.f C.ch vol inn I.f4 I.vols I.few ⟨hlast.1, by omega⟩
  unfold ChgG PutG at hcg
  have hfin : Imp [rnd p ndT (restC C.last C.marked q C.J.ring (.pointer (some ⟨j, 0, none⟩)) fv g) C.R, jrn j q C.J, grp g C.f C.ch, dsk q C.D, F] [crdA p q g fv C, dsk q C.D, F] := crdFold p q g fv C j (N := [dsk q C.D, F])
  have hjl := I.J.len
  repeat (first | refine GD ?_ | refine NW fun _ => ?_)
  refine WL.step rfl (OP.callRO rfl rfl hdn (Ent.at (up_rnd _ _ _ _) MM) rfl rfl ?_)
  repeat (first | refine GD ?_ | refine NW fun _ => ?_)
  refine WL.step rfl (OP.load1 (v := .pointer (some ⟨j, 0, none⟩)) rfl rfl rfl rfl (rnd_rest (i := 4) (R := C.R) (T := ndT) MM rfl) rfl rfl ?_)
  repeat (first | refine GD ?_ | refine NW fun _ => ?_)
  refine WL.step rfl (OP.callRO rfl rfl hroom (Ent.at (up_jrn _ _ _) MM) rfl rfl ?_)
  by_cases hfull : C.J.held.length = C.J.ring
  · have hop : changeC C vol inn = .error ([(coordT, vol)], 6) := by rw [hdef, if_pos hfull]
    have h0 : (C.J.ring : Int) - C.J.held.length = 0 := by omega
    repeat (first | refine GD ?_ | refine NW fun _ => ?_)
    refine WL.step rfl (OP.call (pre := []) rfl rfl (cwrong1_ok vol 6 (by decide)) PS rfl rfl ?_)
    intro v M hM
    repeat (first | refine GD ?_ | refine NW fun _ => ?_)
    refine ret1 rfl ⟨M ++ [crdA p q g fv C, dsk q C.D], ?_, ?_⟩
    · unfold ChangeCo
      rw [hop]
      exact ⟨M, hM, rfl⟩
    · rw [List.append_assoc]
      refine Imp.appL ?_ _
      exact Imp.trans II hfin
  rw [if_neg hfull] at hdef
  have h0 : ¬ (C.J.ring : Int) - C.J.held.length = 0 := by omega
  repeat (first | refine GD ?_ | refine NW fun _ => ?_)
  cases hp : putM C.f C.ch (C.last + 1, vol, !inn) with
  | some c =>
    rw [hp] at hdef hcg
    dsimp only at hdef hcg
    refine WL.step rfl (OP.call (pre := [rnd p ndT _ C.R, grp g C.f C.ch]) rfl rfl hcg PS rfl rfl ?_)
    rintro v _ ⟨_, ⟨E, hF, rfl⟩, rfl⟩
    obtain ⟨M', hi, hm⟩ := hF.isEr
    obtain ⟨y, ch, hc1, rfl, rfl⟩ := isEr_one hi (by simp)
    have hwr := cwrong_ok vol (y :: ch) c (fun h => nomatch h.1)
    dsimp only [valOf] at hwr
    rw [List.append_assoc, List.append_assoc]
    refine WL.imp (Imp.app hm _) ?_
    repeat (first | refine GD ?_ | refine NW fun _ => ?_)
    refine WL.step rfl (OP.call (pre := [chainR (y :: ch) c]) rfl rfl hwr PS rfl rfl ?_)
    intro v M hM
    rw [hc1] at hM
    repeat (first | refine GD ?_ | refine NW fun _ => ?_)
    refine ret1 rfl ⟨M ++ [crdA p q g fv C, dsk q C.D], ?_, ?_⟩
    · unfold ChangeCo
      rw [hdef]
      exact ⟨M, hM, rfl⟩
    · rw [List.append_assoc]
      refine Imp.appL ?_ _
      exact Imp.trans II hfin
  | none =>
    rw [hp] at hdef hcg
    dsimp only at hdef hcg
    obtain ⟨p1, p2, p3, p4, p5⟩ := put_none hp
    dsimp only at p1
    have hrt : appendM C.J C.D (chgR vol inn) = _ := I.right hB hfull (.inr ⟨rfl, by show 0 ≤ vol ∧ vol < 8; omega, by cases inn; exact (by decide : minusB.size ≤ 16); exact (by decide : plusB.size ≤ 16), rfl⟩)
    have hap := jappend_ok j q C.J C.D (chgR vol inn) (I.jr hB) I.J.ring.2.2 (by rw [I.W]; decide) (by cases inn; exact (by decide : minusB.size < 1000000); exact (by decide : plusB.size < 1000000))
    unfold AppJ at hap
    obtain ⟨Ja, _, er, _⟩ := I.J.append hrt
    rw [hrt] at hap hdef
    dsimp only at hap hdef
    generalize C.D.put (posM C.J.ring C.J.next) (sectorM (bodyM C.J.hd.gen (setSeq (chgR vol inn) C.J.next))) = D' at *
    generalize (⟨C.J.ring, C.J.hd, C.J.held ++ [(C.J.hd.gen, setSeq (chgR vol inn) C.J.next)]⟩ : Jrn) = J' at *
    refine WL.step rfl (OP.call (pre := [rnd p ndT _ C.R, grp g C.f C.ch]) rfl rfl hcg PS rfl rfl ?_)
    rintro _ _ ⟨_, ⟨rfl, rfl⟩, rfl⟩
    cases inn with
    | true =>
      repeat (first | refine GD ?_ | refine NW fun _ => ?_)
      refine WL.step rfl (OP.load1 (v := .pointer (some ⟨j, 0, none⟩)) rfl rfl rfl rfl (rnd_rest (i := 4) (R := C.R) (T := ndT) MM rfl) rfl rfl ?_)
      repeat (first | refine GD ?_ | refine NW fun _ => ?_)
      refine WL.step rfl (OP.call (pre := [jrn j q C.J, dsk q C.D]) rfl rfl hap PS rfl rfl ?_)
      rintro _ _ ⟨rfl, rfl⟩
      repeat (first | refine GD ?_ | refine NW fun _ => ?_)
      refine WL.step rfl (OP.load1 (v := .pointer (some ⟨j, 0, none⟩)) rfl rfl rfl rfl (rnd_rest (i := 4) (R := C.R) (T := ndT) MM rfl) rfl rfl ?_)
      repeat (first | refine GD ?_ | refine NW fun _ => ?_)
      refine WL.step rfl (OP.call (pre := [jrn j q J', dsk q D']) rfl rfl (jflush_ok j q J' D' Ja.dok Ja.few) PS rfl rfl ?_)
      rintro _ _ ⟨rfl, rfl⟩
      repeat (first | refine GD ?_ | refine NW fun _ => ?_)
      refine WL.step rfl (OP.callRO rfl rfl (cwrong_nil vol) (fun _ _ => trivial) rfl rfl ?_)
      repeat (first | refine GD ?_ | refine NW fun _ => ?_)
      refine ret1 rfl ⟨[crdA p q g fv _, dsk q D'.flush], by unfold ChangeCo; rw [hdef]; exact ⟨rfl, rfl⟩, ?_⟩
      have hf := crdFold p q g fv { C with J := J', D := D'.flush, ch := C.ch ++ [(C.last + 1, vol, !true)] } j (N := [dsk q D'.flush, F])
      dsimp only at hf
      rw [er] at hf
      exact Imp.trans II hf
    | false =>
      repeat (first | refine GD ?_ | refine NW fun _ => ?_)
      refine WL.step rfl (OP.load1 (v := .pointer (some ⟨j, 0, none⟩)) rfl rfl rfl rfl (rnd_rest (i := 4) (R := C.R) (T := ndT) MM rfl) rfl rfl ?_)
      repeat (first | refine GD ?_ | refine NW fun _ => ?_)
      refine WL.step rfl (OP.call (pre := [jrn j q C.J, dsk q C.D]) rfl rfl hap PS rfl rfl ?_)
      rintro _ _ ⟨rfl, rfl⟩
      repeat (first | refine GD ?_ | refine NW fun _ => ?_)
      refine WL.step rfl (OP.load1 (v := .pointer (some ⟨j, 0, none⟩)) rfl rfl rfl rfl (rnd_rest (i := 4) (R := C.R) (T := ndT) MM rfl) rfl rfl ?_)
      repeat (first | refine GD ?_ | refine NW fun _ => ?_)
      refine WL.step rfl (OP.call (pre := [jrn j q J', dsk q D']) rfl rfl (jflush_ok j q J' D' Ja.dok Ja.few) PS rfl rfl ?_)
      rintro _ _ ⟨rfl, rfl⟩
      repeat (first | refine GD ?_ | refine NW fun _ => ?_)
      refine WL.step rfl (OP.callRO rfl rfl (cwrong_nil vol) (fun _ _ => trivial) rfl rfl ?_)
      repeat (first | refine GD ?_ | refine NW fun _ => ?_)
      refine ret1 rfl ⟨[crdA p q g fv _, dsk q D'.flush], by unfold ChangeCo; rw [hdef]; exact ⟨rfl, rfl⟩, ?_⟩
      have hf := crdFold p q g fv { C with J := J', D := D'.flush, ch := C.ch ++ [(C.last + 1, vol, !false)] } j (N := [dsk q D'.flush, F])
      dsimp only at hf
      rw [er] at hf
      exact Imp.trans II hf
end Go.Proofs.YtacgheafbkfciabGreatDoor
/- Contracts of functions of the given program, and plain laws on what they compute: parts of the proofs of laws. -/

namespace Go.Proofs.YtacgheafbkfciabGreatDoor
open Go Go.GL

theorem CInv.beginOk {C : Crd} {B : Int} (I : CInv C B) (hB : B + 4 ≤ widest) (h0 : C.R.number = 0) (hm : C.mem (C.last + 1) ≠ []) (hfull : C.J.held.length ≠ C.J.ring) : ∃ l C', beginC C = .ok ((C.last + 1, l), C') := by
  have hww : widest = 1152921504606846975 := rfl
  have hl := I.last
  have hn := I.num
  have ha := I.right hB hfull (r := markR (C.last + 1)) (.inl ⟨rfl, ⟨by show 1 ≤ C.last + 1; omega, by show C.last + 1 ≤ widest; omega⟩, rfl, rfl⟩)
  unfold beginC
  rw [if_neg (not_not_intro h0), if_neg hm, ha]
  exact ⟨_, _, rfl⟩
set_option maxHeartbeats 8000000 in
set_option maxRecDepth 10000 in
theorem cawake_ro : RO G 4 [] (fun _ => True) (.bool true) := by
  refine RO.enter Tryz.func4 rfl (by decide) rfl Tryz.ntmps4 rfl (fun A hu hA => ?_) (fun _ _ _ h => h)
  have hww : widest = 1152921504606846975 := rfl
  obtain ⟨J, D, ho, hr, hh, hoc, hst, I⟩ := CInv.fresh (n := 10) (ring := 8) (by decide) (by decide) (by decide) (by decide) (l := [0, 1]) (f := [true, true, false, false]) rfl
  have ho' : openM (Dsk.new 10) 8 = .ok (J, D) := ho
  have hoc' : openC (Dsk.new 10) 8 [0, 1] = .ok ⟨J, D, [true, true, false, false], [], rnd0, 0, 0⟩ := hoc
  obtain ⟨l, C', hbg⟩ := I.beginOk (by omega) rfl (show listM (atM (0 + 1) [true, true, false, false] []) ≠ [] by decide) (by rw [hh]; show ¬ (0 : Nat) = J.ring; rw [hr]; decide)
  obtain ⟨I', _, _, _, _, _, _, _, _, _, _, hl, _⟩ := I.begin (by omega) hbg
  have hl2 : l.length = 2 := by rw [hl, List.length_map]; exact (by decide : (listM (atM (0 + 1) [true, true, false, false] [])).length = 2)
  repeat (first | refine GO ?_ | refine NW fun _ => ?_)
  refine WL.step rfl (OP.callRT rfl rfl (dnew_rt 10) (fun _ _ => trivial) rfl rfl ?_)
  rintro _ _ ⟨q, rfl, rfl⟩
  repeat (first | refine GO ?_ | refine NW fun _ => ?_)
  rename_i b
  have hop := copen_ok q 8 (some ⟨b, 0, none⟩, 2, 2) (Dsk.new 10) (ownS (some ⟨b, 0, none⟩) 2 2 3 1 [vI 0, vI 1]) (up_ownS _ _ _ _ _ _) [0, 1] (fun _ h => read_of_own h) (show (2 : Nat) < 1000000 by decide) (Dsk.new_ok 10) (by decide) (by decide) (fun J2 D2 h => by
    rw [ho'] at h; cases h; exact ⟨I.jr (by omega), I.J.right⟩)
  unfold OpenCo at hop
  rw [hoc'] at hop
  refine WL.step rfl (OP.call (pre := [dsk q (Dsk.new 10), ownS (some ⟨b, 0, none⟩) 2 2 3 1 [vI 0, vI 1]]) rfl rfl hop PS rfl rfl ?_)
  rintro _ _ ⟨p, g, rfl, rfl⟩
  repeat (first | refine GO ?_ | refine NW fun _ => ?_)
  refine WL.guardT rfl rfl rfl rfl (OP.callRO rfl rfl (cgroup_ro p q g _ _) (Ent.at (up_crdA _ _ _ _ _) MM) rfl rfl ?_)
  repeat (first | refine GO ?_ | refine NW fun _ => ?_)
  have hcb := cbegin_ok p q g (some ⟨b, 0, none⟩, 2, 2) _ _ I (by omega)
  unfold BeginCo at hcb
  rw [hbg] at hcb
  refine WL.step rfl (OP.call (pre := [crdA p q g _ _, dsk q D]) rfl rfl hcb PS rfl rfl ?_)
  rintro _ _ ⟨_, _, ⟨xa, xc, rfl, rfl⟩, rfl, rfl⟩
  rw [hl2]
  repeat (first | refine GO ?_ | refine NW fun _ => ?_)
  exact ret1 rfl ⟨rfl, MM⟩
end Go.Proofs.YtacgheafbkfciabGreatDoor
/- Contracts of functions of the given program, and plain laws on what they compute: parts of the proofs of laws. -/

namespace Go.Proofs.YtacgheafbkfciabGreatDoor
open Go Go.GL Go.Extern

/-- a type's handle -/
def hd (t : Nat) : Value := .pointer (some ⟨1, t, none⟩)
def rt (t : Nat) : Value := .iface 153 (.agg #[hd t])
def errT : Value := rt 29
theorem xValueOf : IsExt Tryz.prog 67 (fun args => ReflectliteValue.unpack (args.getD 0 (.tuple #[]))) := fun args w => run_callFunc_extern (e := (fun args => ReflectliteValue.unpack (args.getD 0 (.tuple #[])))) Tryz.func67 (by kernel_rfl) (by kernel_rfl) (by kernel_rfl) (by kernel_rfl) args w
theorem xType : IsExt Tryz.prog 68 (ReflectliteValue.methodAny (ReflectliteValue.valueError "reflectlite.Value.Type" 0) (fun t _ _ _ => ReflectliteType.toType t)) := fun args w => run_callFunc_extern (e := (ReflectliteValue.methodAny (ReflectliteValue.valueError "reflectlite.Value.Type" 0) (fun t _ _ _ => ReflectliteType.toType t))) Tryz.func68 (by kernel_rfl) (by kernel_rfl) (by kernel_rfl) (by kernel_rfl) args w
theorem xIsNil : IsExt Tryz.prog 69 (ReflectliteValue.method (ReflectliteValue.valueError "reflectlite.Value.IsNil" 0) ReflectliteValue.isNil) := fun args w => run_callFunc_extern (e := (ReflectliteValue.method (ReflectliteValue.valueError "reflectlite.Value.IsNil" 0) ReflectliteValue.isNil)) Tryz.func69 (by kernel_rfl) (by kernel_rfl) (by kernel_rfl) (by kernel_rfl) args w
theorem xKind : IsExt Tryz.prog 117 (ReflectliteType.abiMethod fun t => do pure (.int .u8 (← Rtype.kind t))) := fun args w => run_callFunc_extern (e := (ReflectliteType.abiMethod fun t => do pure (.int .u8 (← Rtype.kind t)))) Tryz.func117 (by kernel_rfl) (by kernel_rfl) (by kernel_rfl) (by kernel_rfl) args w
theorem xElem : IsExt Tryz.prog 129 (ReflectliteType.method ReflectliteType.elem) := fun args w => run_callFunc_extern (e := (ReflectliteType.method ReflectliteType.elem)) Tryz.func129 (by kernel_rfl) (by kernel_rfl) (by kernel_rfl) (by kernel_rfl) args w
theorem xImplements : IsExt Tryz.prog 130 (ReflectliteType.relation "Implements" ReflectliteType.implements_) := fun args w => run_callFunc_extern (e := (ReflectliteType.relation "Implements" ReflectliteType.implements_)) Tryz.func130 (by kernel_rfl) (by kernel_rfl) (by kernel_rfl) (by kernel_rfl) args w
theorem xTypeOf : IsExt Tryz.prog 78 ReflectliteType.typeOf := fun args w => run_callFunc_extern (e := ReflectliteType.typeOf) Tryz.func78 (by kernel_rfl) (by kernel_rfl) (by kernel_rfl) (by kernel_rfl) args w
theorem xAssignableTo : IsExt Tryz.prog 127 (ReflectliteType.relation "AssignableTo" ReflectliteType.assignableTo) := fun args w => run_callFunc_extern (e := (ReflectliteType.relation "AssignableTo" ReflectliteType.assignableTo)) Tryz.func127 (by kernel_rfl) (by kernel_rfl) (by kernel_rfl) (by kernel_rfl) args w
theorem xElemV : IsExt Tryz.prog 79 (ReflectliteValue.method (ReflectliteValue.valueError "reflectlite.Value.Elem" 0) ReflectliteValue.elem) := fun args w => run_callFunc_extern (e := (ReflectliteValue.method (ReflectliteValue.valueError "reflectlite.Value.Elem" 0) ReflectliteValue.elem)) Tryz.func79 (by kernel_rfl) (by kernel_rfl) (by kernel_rfl) (by kernel_rfl) args w
theorem xSet : IsExt Tryz.prog 80 ReflectliteValue.set := fun args w => run_callFunc_extern (e := ReflectliteValue.set) Tryz.func80 (by kernel_rfl) (by kernel_rfl) (by kernel_rfl) (by kernel_rfl) args w
theorem mKind (h : Value) (w : World) : (Go.method (Tryz.prog.types.size + Made.depth) 153 (.agg #[h]) "Kind").run Tryz.prog w = .ok (117, h) w := by kernel_rfl
theorem mElem (h : Value) (w : World) : (Go.method (Tryz.prog.types.size + Made.depth) 153 (.agg #[h]) "Elem").run Tryz.prog w = .ok (129, .agg #[h]) w := by kernel_rfl
theorem mImplements (h : Value) (w : World) : (Go.method (Tryz.prog.types.size + Made.depth) 153 (.agg #[h]) "Implements").run Tryz.prog w = .ok (130, .agg #[h]) w := by kernel_rfl
theorem mAssignableTo (h : Value) (w : World) : (Go.method (Tryz.prog.types.size + Made.depth) 153 (.agg #[h]) "AssignableTo").run Tryz.prog w = .ok (127, .agg #[h]) w := by kernel_rfl
theorem mUnwrap (v : Value) (w : World) : (Go.method (Tryz.prog.types.size + Made.depth) 108 v "Unwrap").run Tryz.prog w = .ok (122, v) w := by kernel_rfl
theorem valueOfNP (t : Addr) (w : World) : (ReflectliteValue.unpack (.iface 112 (.pointer (some t)))).run Tryz.prog w = .ok (.agg #[hd 112, .pointer (some ⟨w.heap.size, 0, none⟩), .int .u64 150]) (w.alloc (.cells #[.pointer (some t)] 112)) := by kernel_rfl
theorem typeNP (a : Addr) (w : World) : ((ReflectliteValue.methodAny (ReflectliteValue.valueError "reflectlite.Value.Type" 0) (fun t _ _ _ => ReflectliteType.toType t)) #[.agg #[hd 112, .pointer (some a), .int .u64 150]]).run Tryz.prog w = .ok (rt 112) w := by kernel_rfl
theorem partsNP (a : Addr) (w : World) : (ReflectliteValue.parts (.agg #[hd 112, .pointer (some a), .int .u64 150])).run Tryz.prog w = .ok (some (112, a, 150)) w := by kernel_rfl
theorem valueOfFF (t : Addr) (w : World) : (ReflectliteValue.unpack (.iface 133 (.pointer (some t)))).run Tryz.prog w = .ok (.agg #[hd 133, .pointer (some ⟨w.heap.size, 0, none⟩), .int .u64 150]) (w.alloc (.cells #[.pointer (some t)] 133)) := by kernel_rfl
theorem typeFF (a : Addr) (w : World) : ((ReflectliteValue.methodAny (ReflectliteValue.valueError "reflectlite.Value.Type" 0) (fun t _ _ _ => ReflectliteType.toType t)) #[.agg #[hd 133, .pointer (some a), .int .u64 150]]).run Tryz.prog w = .ok (rt 133) w := by kernel_rfl
theorem partsFF (a : Addr) (w : World) : (ReflectliteValue.parts (.agg #[hd 133, .pointer (some a), .int .u64 150])).run Tryz.prog w = .ok (some (133, a, 150)) w := by kernel_rfl
theorem rlm (z : Sem Value) (f : TypeId → Addr → Nat → Nat → Sem Value) (v : Value) : ReflectliteValue.method z f #[v] = (do match ← ReflectliteValue.parts v with | none => z | some (t, a, fl) => f t a fl (fl % 32)) := rfl
theorem isNilNP (a p : Addr) (W : World) (ha : W.cell? a = some (.pointer (some p))) : ((ReflectliteValue.method (ReflectliteValue.valueError "reflectlite.Value.IsNil" 0) ReflectliteValue.isNil) #[.agg #[hd 112, .pointer (some a), .int .u64 150]]).run Tryz.prog W = .ok (.bool false) W := by
  rw [rlm]
  simp only [Sem.run_bind, partsNP, Result.andThen]
  simp [ReflectliteValue.isNil, loadVar, isAgg, underlying, Tryz.underlying112, ha, Result.andThen]
theorem isNilFF (a p : Addr) (W : World) (ha : W.cell? a = some (.pointer (some p))) : ((ReflectliteValue.method (ReflectliteValue.valueError "reflectlite.Value.IsNil" 0) ReflectliteValue.isNil) #[.agg #[hd 133, .pointer (some a), .int .u64 150]]).run Tryz.prog W = .ok (.bool false) W := by
  rw [rlm]
  simp only [Sem.run_bind, partsFF, Result.andThen]
  simp [ReflectliteValue.isNil, loadVar, isAgg, underlying, Tryz.underlying133, ha, Result.andThen]
theorem kindNP (w : World) : ((ReflectliteType.abiMethod fun t => do pure (.int .u8 (← Rtype.kind t))) #[hd 112]).run Tryz.prog w = .ok (.int .u8 22) w := by kernel_rfl
theorem kindFF (w : World) : ((ReflectliteType.abiMethod fun t => do pure (.int .u8 (← Rtype.kind t))) #[hd 133]).run Tryz.prog w = .ok (.int .u8 22) w := by kernel_rfl
theorem kindN (w : World) : ((ReflectliteType.abiMethod fun t => do pure (.int .u8 (← Rtype.kind t))) #[hd 49]).run Tryz.prog w = .ok (.int .u8 2) w := by kernel_rfl
theorem kindF (w : World) : ((ReflectliteType.abiMethod fun t => do pure (.int .u8 (← Rtype.kind t))) #[hd 108]).run Tryz.prog w = .ok (.int .u8 22) w := by kernel_rfl
theorem elemNP (w : World) : ((ReflectliteType.method ReflectliteType.elem) #[.agg #[hd 112]]).run Tryz.prog w = .ok (rt 49) w := by kernel_rfl
theorem elemOfNP (w : World) : (Rtype.elem? 112).run Tryz.prog w = .ok (some 49) w := by kernel_rfl
theorem elemFF (w : World) : ((ReflectliteType.method ReflectliteType.elem) #[.agg #[hd 133]]).run Tryz.prog w = .ok (rt 108) w := by kernel_rfl
theorem elemOfFF (w : World) : (Rtype.elem? 133).run Tryz.prog w = .ok (some 108) w := by kernel_rfl
theorem implementsN (w : World) : ((ReflectliteType.relation "Implements" ReflectliteType.implements_) #[.agg #[hd 49], errT]).run Tryz.prog w = .ok (.bool true) w := by kernel_rfl
theorem typeOfN (v : Value) (w : World) : (ReflectliteType.typeOf #[.iface 49 v]).run Tryz.prog w = .ok (rt 49) w := by kernel_rfl
theorem mkN (p : Addr) (w : World) : (ReflectliteValue.mk 49 p ReflectliteValue.flagAddr).run Tryz.prog w = .ok (.agg #[hd 49, .pointer (some p), .int .u64 386]) w := by kernel_rfl
theorem partsAN (a : Addr) (w : World) : (ReflectliteValue.parts (.agg #[hd 49, .pointer (some a), .int .u64 386])).run Tryz.prog w = .ok (some (49, a, 386)) w := by kernel_rfl
theorem partsBN (a : Addr) (w : World) : (ReflectliteValue.parts (.agg #[hd 49, .pointer (some a), .int .u64 130])).run Tryz.prog w = .ok (some (49, a, 130)) w := by kernel_rfl
theorem directN (w : World) : (Rtype.directlyAssignable 49 49).run Tryz.prog w = .ok true w := by kernel_rfl
theorem implementsF (w : World) : ((ReflectliteType.relation "Implements" ReflectliteType.implements_) #[.agg #[hd 108], errT]).run Tryz.prog w = .ok (.bool true) w := by kernel_rfl
theorem typeOfF (v : Value) (w : World) : (ReflectliteType.typeOf #[.iface 108 v]).run Tryz.prog w = .ok (rt 108) w := by kernel_rfl
theorem mkF (p : Addr) (w : World) : (ReflectliteValue.mk 108 p ReflectliteValue.flagAddr).run Tryz.prog w = .ok (.agg #[hd 108, .pointer (some p), .int .u64 406]) w := by kernel_rfl
theorem partsAF (a : Addr) (w : World) : (ReflectliteValue.parts (.agg #[hd 108, .pointer (some a), .int .u64 406])).run Tryz.prog w = .ok (some (108, a, 406)) w := by kernel_rfl
theorem partsBF (a : Addr) (w : World) : (ReflectliteValue.parts (.agg #[hd 108, .pointer (some a), .int .u64 150])).run Tryz.prog w = .ok (some (108, a, 150)) w := by kernel_rfl
theorem directF (w : World) : (Rtype.directlyAssignable 108 108).run Tryz.prog w = .ok true w := by kernel_rfl
theorem assignFN (w : World) : ((ReflectliteType.relation "AssignableTo" ReflectliteType.assignableTo) #[.agg #[hd 108], rt 49]).run Tryz.prog w = .ok (.bool false) w := by kernel_rfl
theorem assignNN (w : World) : ((ReflectliteType.relation "AssignableTo" ReflectliteType.assignableTo) #[.agg #[hd 49], rt 49]).run Tryz.prog w = .ok (.bool true) w := by kernel_rfl
theorem assignFF (w : World) : ((ReflectliteType.relation "AssignableTo" ReflectliteType.assignableTo) #[.agg #[hd 108], rt 108]).run Tryz.prog w = .ok (.bool true) w := by kernel_rfl
theorem assignNF (w : World) : ((ReflectliteType.relation "AssignableTo" ReflectliteType.assignableTo) #[.agg #[hd 49], rt 108]).run Tryz.prog w = .ok (.bool false) w := by kernel_rfl
theorem valueOfF (e : Addr) (w : World) : (ReflectliteValue.unpack (.iface 108 (.pointer (some e)))).run Tryz.prog w = .ok (.agg #[hd 108, .pointer (some ⟨w.heap.size, 0, none⟩), .int .u64 150]) (w.alloc (.cells #[.pointer (some e)] 108)) := by kernel_rfl
theorem valueOfN (c : Int) (w : World) : (ReflectliteValue.unpack (.iface 49 (.int .i64 c))).run Tryz.prog w = .ok (.agg #[hd 49, .pointer (some ⟨w.heap.size, 0, none⟩), .int .u64 130]) (w.alloc (.cells #[.int .i64 c] 49)) := by kernel_rfl
theorem elemVNP (a p : Addr) (W : World) (ha : W.cell? a = some (.pointer (some p))) : ((ReflectliteValue.method (ReflectliteValue.valueError "reflectlite.Value.Elem" 0) ReflectliteValue.elem) #[.agg #[hd 112, .pointer (some a), .int .u64 150]]).run Tryz.prog W = .ok (.agg #[hd 49, .pointer (some p), .int .u64 386]) W := by
  rw [rlm]
  simp only [Sem.run_bind, partsNP, Result.andThen]
  simp [ReflectliteValue.elem, loadVar, isAgg, underlying, Tryz.underlying112, ha, Result.andThen, elemOfNP, mkN]
theorem elemVFF (a p : Addr) (W : World) (ha : W.cell? a = some (.pointer (some p))) : ((ReflectliteValue.method (ReflectliteValue.valueError "reflectlite.Value.Elem" 0) ReflectliteValue.elem) #[.agg #[hd 133, .pointer (some a), .int .u64 150]]).run Tryz.prog W = .ok (.agg #[hd 108, .pointer (some p), .int .u64 406]) W := by
  rw [rlm]
  simp only [Sem.run_bind, partsFF, Result.andThen]
  simp [ReflectliteValue.elem, loadVar, isAgg, underlying, Tryz.underlying133, ha, Result.andThen, elemOfFF, mkF]
theorem rls (v x : Value) : ReflectliteValue.set #[v, x] = (do
    let (some (dst, a, fl), some (src, b, _)) := (← ReflectliteValue.parts v, ← ReflectliteValue.parts x)
      | unsupported (.noEntry "extern/(internal/reflectlite.Value).Set.zeroValue")
    if fl / ReflectliteValue.flagAddr % 2 == 0 then unsupported (.noEntry "extern/(internal/reflectlite.Value).Set.unaddressable")
    let val ← loadVar src b
    if ← Rtype.directlyAssignable dst src then storeVar dst a val
    else if ← Rtype.implements dst src then
      if (← Rtype.kind src) == 20 then
        match val with
        | .nilIface => unsupported (.noEntry "extern/reflectlite: a nil value of one interface type handed on as a value of another")
        | _ => storeVar dst a val
      else storeVar dst a (.iface src val)
    else panicString ("reflectlite.Set: value of type " ++ (← Rtype.spelt src) ++ " is not assignable to type " ++ (← Rtype.spelt dst))
    pure (.tuple #[])) := rfl
theorem sizeN (w : World) : (sizeOf 49).run Tryz.prog w = .ok 1 w := by kernel_rfl
theorem setN (ta b : Addr) (c : Int) (old : Value) (W : World) (hb : W.cell? b = some (.int .i64 c)) (ht : W.cell? ta = some old) (hf : W.frozen? ta = false) :
    (ReflectliteValue.set #[.agg #[hd 49, .pointer (some ta), .int .u64 386], .agg #[hd 49, .pointer (some b), .int .u64 130]]).run Tryz.prog W = .ok (.tuple #[]) (W.setCell ta (.int .i64 c)) := by
  rw [rls]
  simp only [Sem.run_bind, partsAN, partsBN, Result.andThen]
  simp [ReflectliteValue.flagAddr, loadVar, isAgg, underlying, Tryz.underlying49, hb, Result.andThen, directN, storeVar, Value.cells, storeCells, Addr.add]
  rw [run_store Tryz.prog W ta _ _ (by rfl)]
  simp [ht, hf]
theorem sizeF (w : World) : (sizeOf 108).run Tryz.prog w = .ok 1 w := by kernel_rfl
theorem setF (ta b : Addr) (c : Option Addr) (old : Value) (W : World) (hb : W.cell? b = some (.pointer c)) (ht : W.cell? ta = some old) (hf : W.frozen? ta = false) :
    (ReflectliteValue.set #[.agg #[hd 108, .pointer (some ta), .int .u64 406], .agg #[hd 108, .pointer (some b), .int .u64 150]]).run Tryz.prog W = .ok (.tuple #[]) (W.setCell ta (.pointer c)) := by
  rw [rls]
  simp only [Sem.run_bind, partsAF, partsBF, Result.andThen]
  simp [ReflectliteValue.flagAddr, loadVar, isAgg, underlying, Tryz.underlying108, hb, Result.andThen, directF, storeVar, Value.cells, storeCells, Addr.add]
  rw [run_store Tryz.prog W ta _ _ (by rfl)]
  simp [ht, hf]
theorem assertFIA (v : Value) (w : World) : (Instr.typeAssert (.iface 108 v) 29 158 true).run Tryz.prog w = .ok (.tuple #[.nilIface, .bool false]) w := run_typeAssert_lacksB Tryz.underlying158 (by kernel_rfl) (by kernel_rfl) v 29 w
theorem assertFIU (v : Value) (w : World) : (Instr.typeAssert (.iface 108 v) 29 161 true).run Tryz.prog w = .ok (.tuple #[.iface 108 v, .bool true]) w := run_typeAssert_hasB Tryz.underlying161 (by kernel_rfl) v 29 w
theorem assertNIA (v : Value) (w : World) : (Instr.typeAssert (.iface 49 v) 29 158 true).run Tryz.prog w = .ok (.tuple #[.nilIface, .bool false]) w := run_typeAssert_lacksB Tryz.underlying158 (by kernel_rfl) (by kernel_rfl) v 29 w
theorem assertNIU (v : Value) (w : World) : (Instr.typeAssert (.iface 49 v) 29 161 true).run Tryz.prog w = .ok (.tuple #[.nilIface, .bool false]) w := run_typeAssert_lacksB Tryz.underlying161 (by kernel_rfl) (by kernel_rfl) v 29 w
theorem assertNIL (v : Value) (w : World) : (Instr.typeAssert (.iface 49 v) 29 162 true).run Tryz.prog w = .ok (.tuple #[.nilIface, .bool false]) w := run_typeAssert_lacksB Tryz.underlying162 (by kernel_rfl) (by kernel_rfl) v 29 w
end Go.Proofs.YtacgheafbkfciabGreatDoor
/- Contracts of functions of the given program, and plain laws on what they compute: parts of the proofs of laws. -/

namespace Go.Proofs.YtacgheafbkfciabGreatDoor
open Go Go.GL Go.Extern

/-- the cells of a fault -/
def faultCells (op : ByteArray) (at_ c : Int) : List Value := [.string op, .int .i64 at_, .iface 49 (.int .i64 c)]
/-- the type of errors lies where errors.As looks for it -/
def ErrT : Assn := cellAt 0 0 errT
theorem up_ErrT : Up ErrT := up_cellAt _ _ _
theorem cell_of_blk0 {L : List Assn} {w : World} {b : Nat} {c : List Value} {T : TypeId} {v : Value} (s : Sat L w) (m : blk b c T ∈ L) (h : c[0]? = some v) : w.cell? ⟨b, 0, none⟩ = some v :=
  cell_of_cellAt ((Ent.blk m h) _ s)
theorem cell_of_cells0 {L : List Assn} {w : World} {b off i : Nat} {l : List Value} {v : Value} (s : Sat L w) (m : Ent L (cellsAt b off l)) (h : l[i]? = some v) : w.cell? ⟨b, off + i, none⟩ = some v :=
  cell_of_cellAt (cellsAt_one (m _ s) h)
set_option maxRecDepth 10000 in
theorem as_nil (v : Value) : RO G 49 [.nilIface, v] (fun _ => True) (.bool false) := by
  refine RO.enter Tryz.func49 rfl (by decide) rfl Tryz.ntmps49 rfl (fun A _ hA => ?_) (fun _ _ _ h => h)
  repeat (first | refine GO ?_ | refine NW fun _ => ?_)
  exact ret1 rfl ⟨rfl, MM⟩
set_option maxRecDepth 10000 in
theorem unwrap_ro (b : Nat) (op : ByteArray) (at_ c : Int) : RO G 122 [.pointer (some ⟨b, 0, none⟩)] (cellsAt b 0 (faultCells op at_ c)) (.iface 49 (.int .i64 c)) := by
  refine RO.enter Tryz.func122 rfl (by decide) rfl Tryz.ntmps122 rfl (fun A hu hA => ?_) (up_cellsAt _ _ _)
  repeat (first | refine GO ?_ | refine NW fun _ => ?_)
  refine WL.step rfl (OP.load1 (v := .iface 49 (.int .i64 c)) rfl rfl rfl rfl (Ent.mem (A := A) MM hu (fun h x => cellsAt_one (i := 2) (hA h x) rfl)) rfl rfl ?_)
  repeat (first | refine GO ?_ | refine NW fun _ => ?_)
  exact ret1 rfl ⟨rfl, MM⟩
set_option maxHeartbeats 4000000 in
set_option maxRecDepth 10000 in
theorem asF_hit (b p q : Nat) (old : Value) :
    Triple G 70 [.iface 108 (.pointer (some ⟨b, 0, none⟩)), .iface 133 (.pointer (some ⟨p, 0, none⟩)), .agg #[hd 133, .pointer (some ⟨q, 0, none⟩), .int .u64 150], rt 108] [blk p [old] 108, blk q [.pointer (some ⟨p, 0, none⟩)] 133] (fun v M => v = .bool true ∧ M = [blk p [.pointer (some ⟨b, 0, none⟩)] 108]) := by
  refine Triple.enter Tryz.func70 rfl (by decide) rfl Tryz.ntmps70 rfl (fun X => ?_)
  repeat (first | refine GO ?_ | refine NW fun _ => ?_)
  rename_i bx
  refine WC.loop (σ := Unit) (fun _ => True) (fun _ => [(0, .val (.iface 108 (.pointer (some ⟨b, 0, none⟩)))), (1, .val (.iface 133 (.pointer (some ⟨p, 0, none⟩)))), (3, .val (rt 108)), (6, .val (.pointer (some ⟨bx, 0, none⟩))), (8, .val (.bool false))])
    (fun _ => [blk bx [hd 133, .pointer (some ⟨q, 0, none⟩), .int .u64 150] 137, blk p [old] 108, blk q [.pointer (some ⟨p, 0, none⟩)] 133, X]) (fun _ => 0) () trivial ⟨rfl, rfl, rfl, rfl, rfl, trivial⟩ II ?_
  rintro _ _
  repeat (first | refine GD ?_ | refine NW fun _ => ?_)
  refine WL.step rfl (OP.extP (.call xTypeOf rfl rfl) (fun w _ => typeOfF _ w) rfl rfl ?_)
  repeat (first | refine GD ?_ | refine NW fun _ => ?_)
  refine WL.step rfl (OP.extP (.inv xAssignableTo rfl rfl rfl (fun w => mAssignableTo _ w)) (fun w _ => assignFF w) rfl rfl ?_)
  repeat (first | refine GD ?_ | refine NW fun _ => ?_)
  refine WL.step rfl (OP.extP (.call xElemV rfl rfl) (fun w s => elemVFF _ ⟨p, 0, none⟩ w (cell_of_blk0 (b := q) s MM rfl)) rfl rfl ?_)
  repeat (first | refine GD ?_ | refine NW fun _ => ?_)
  refine WL.step rfl (OP.extNew (mk := (fun n => .agg #[hd 108, .pointer (some ⟨n, 0, none⟩), .int .u64 150])) (.call xValueOf rfl rfl) (fun w _ => valueOfF _ w) rfl rfl (fun q2 => ?_))
  repeat (first | refine GD ?_ | refine NW fun _ => ?_)
  refine WL.step rfl (OP.extSet (.call xSet rfl rfl) (fun w s => setF ⟨p, 0, none⟩ ⟨q2, 0, none⟩ (some ⟨b, 0, none⟩) old w (cell_of_blk0 (b := q2) s MM rfl) (cell_of_blk0 (b := p) s MM rfl) (Sat.notFrozen (b := p) (c := [old]) (T := 108) s MM (Nat.zero_lt_succ _))) (by repeat (first | exact Upd.here _ _ _ _ _ | apply Upd.there)) rfl rfl ?_)
  repeat (first | refine GD ?_ | refine NW fun _ => ?_)
  exact ret1 rfl ⟨_, ⟨rfl, rfl⟩, II⟩
set_option maxHeartbeats 4000000 in
set_option maxRecDepth 10000 in
theorem asF_miss (p q : Nat) (c : Int) :
    Triple G 70 [.iface 49 (.int .i64 c), .iface 133 (.pointer (some ⟨p, 0, none⟩)), .agg #[hd 133, .pointer (some ⟨q, 0, none⟩), .int .u64 150], rt 108] [] (fun v M => v = .bool false ∧ M = []) := by
  refine Triple.enter Tryz.func70 rfl (by decide) rfl Tryz.ntmps70 rfl (fun X => ?_)
  repeat (first | refine GO ?_ | refine NW fun _ => ?_)
  rename_i bx
  refine WC.loop (σ := Unit) (fun _ => True) (fun _ => [(0, .val (.iface 49 (.int .i64 c))), (1, .val (.iface 133 (.pointer (some ⟨p, 0, none⟩)))), (3, .val (rt 108)), (6, .val (.pointer (some ⟨bx, 0, none⟩))), (8, .val (.bool false))])
    (fun _ => [X]) (fun _ => 0) () trivial ⟨rfl, rfl, rfl, rfl, rfl, trivial⟩ II ?_
  rintro _ _
  repeat (first | refine GD ?_ | refine NW fun _ => ?_)
  refine WL.step rfl (OP.extP (.call xTypeOf rfl rfl) (fun w _ => typeOfN _ w) rfl rfl ?_)
  repeat (first | refine GD ?_ | refine NW fun _ => ?_)
  refine WL.step rfl (OP.extP (.inv xAssignableTo rfl rfl rfl (fun w => mAssignableTo _ w)) (fun w _ => assignNF w) rfl rfl ?_)
  repeat (first | refine GD ?_ | refine NW fun _ => ?_)
  refine WL.step rfl (OP.assert rfl rfl (fun w => assertNIA _ w) rfl rfl ?_)
  repeat (first | refine GD ?_ | refine NW fun _ => ?_)
  refine WL.step rfl (OP.assert rfl rfl (fun w => assertNIU _ w) rfl rfl ?_)
  repeat (first | refine GD ?_ | refine NW fun _ => ?_)
  refine WL.step rfl (OP.assert rfl rfl (fun w => assertNIL _ w) rfl rfl ?_)
  repeat (first | refine GD ?_ | refine NW fun _ => ?_)
  exact ret1 rfl ⟨_, ⟨rfl, rfl⟩, II⟩
set_option maxHeartbeats 4000000 in
set_option maxRecDepth 10000 in
theorem asN_fault (b p q : Nat) (op : ByteArray) (at_ c : Int) (old : Value) (A : Assn) (hu : Up A) (hA : ∀ h, A h → cellsAt b 0 (faultCells op at_ c) h) :
    Triple G 70 [.iface 108 (.pointer (some ⟨b, 0, none⟩)), .iface 112 (.pointer (some ⟨p, 0, none⟩)), .agg #[hd 112, .pointer (some ⟨q, 0, none⟩), .int .u64 150], rt 49] [blk p [old] 49, blk q [.pointer (some ⟨p, 0, none⟩)] 112, A] (fun v M => v = .bool true ∧ M = [blk p [.int .i64 c] 49, A]) := by
  refine Triple.enter Tryz.func70 rfl (by decide) rfl Tryz.ntmps70 rfl (fun X => ?_)
  repeat (first | refine GO ?_ | refine NW fun _ => ?_)
  rename_i bx
  refine WC.loop (σ := Bool) (fun _ => True) (fun s => match s with | true => [(0, .val (.iface 108 (.pointer (some ⟨b, 0, none⟩)))), (1, .val (.iface 112 (.pointer (some ⟨p, 0, none⟩)))), (3, .val (rt 49)), (6, .val (.pointer (some ⟨bx, 0, none⟩))), (8, .val (.bool false))] | false => [(0, .val (.iface 49 (.int .i64 c))), (1, .val (.iface 112 (.pointer (some ⟨p, 0, none⟩)))), (3, .val (rt 49)), (6, .val (.pointer (some ⟨bx, 0, none⟩))), (8, .val (.bool false))])
    (fun _ => [blk bx [hd 112, .pointer (some ⟨q, 0, none⟩), .int .u64 150] 137, blk p [old] 49, blk q [.pointer (some ⟨p, 0, none⟩)] 112, A, X]) (fun s => match s with | true => 1 | false => 0) true trivial ⟨rfl, rfl, rfl, rfl, rfl, trivial⟩ II ?_
  rintro s _
  cases s
  · repeat (first | refine GD ?_ | refine NW fun _ => ?_)
    refine WL.step rfl (OP.extP (.call xTypeOf rfl rfl) (fun w _ => typeOfN _ w) rfl rfl ?_)
    repeat (first | refine GD ?_ | refine NW fun _ => ?_)
    refine WL.step rfl (OP.extP (.inv xAssignableTo rfl rfl rfl (fun w => mAssignableTo _ w)) (fun w _ => assignNN w) rfl rfl ?_)
    repeat (first | refine GD ?_ | refine NW fun _ => ?_)
    refine WL.step rfl (OP.extP (.call xElemV rfl rfl) (fun w s => elemVNP _ ⟨p, 0, none⟩ w (cell_of_blk0 (b := q) s MM rfl)) rfl rfl ?_)
    repeat (first | refine GD ?_ | refine NW fun _ => ?_)
    refine WL.step rfl (OP.extNew (mk := (fun n => .agg #[hd 49, .pointer (some ⟨n, 0, none⟩), .int .u64 130])) (.call xValueOf rfl rfl) (fun w _ => valueOfN _ w) rfl rfl (fun q2 => ?_))
    repeat (first | refine GD ?_ | refine NW fun _ => ?_)
    refine WL.step rfl (OP.extSet (.call xSet rfl rfl) (fun w s => setN ⟨p, 0, none⟩ ⟨q2, 0, none⟩ c old w (cell_of_blk0 (b := q2) s MM rfl) (cell_of_blk0 (b := p) s MM rfl) (Sat.notFrozen (b := p) (c := [old]) (T := 49) s MM (Nat.zero_lt_succ _))) (by repeat (first | exact Upd.here _ _ _ _ _ | apply Upd.there)) rfl rfl ?_)
    repeat (first | refine GD ?_ | refine NW fun _ => ?_)
    exact ret1 rfl ⟨_, ⟨rfl, rfl⟩, II⟩
  · repeat (first | refine GD ?_ | refine NW fun _ => ?_)
    refine WL.step rfl (OP.extP (.call xTypeOf rfl rfl) (fun w _ => typeOfF _ w) rfl rfl ?_)
    repeat (first | refine GD ?_ | refine NW fun _ => ?_)
    refine WL.step rfl (OP.extP (.inv xAssignableTo rfl rfl rfl (fun w => mAssignableTo _ w)) (fun w _ => assignFN w) rfl rfl ?_)
    repeat (first | refine GD ?_ | refine NW fun _ => ?_)
    refine WL.step rfl (OP.assert rfl rfl (fun w => assertFIA _ w) rfl rfl ?_)
    repeat (first | refine GD ?_ | refine NW fun _ => ?_)
    refine WL.step rfl (OP.assert rfl rfl (fun w => assertFIU _ w) rfl rfl ?_)
    repeat (first | refine GD ?_ | refine NW fun _ => ?_)
    refine WL.step rfl (OP.invRO rfl rfl (fun w => mUnwrap _ w) (unwrap_ro b op at_ c) (Ent.mem (A := A) MM hu hA) rfl rfl ?_)
    repeat (first | refine GD ?_ | refine NW fun _ => ?_)
    exact ⟨false, trivial, by decide, ⟨rfl, rfl, rfl, rfl, rfl, trivial⟩, II⟩
set_option maxHeartbeats 4000000 in
set_option maxRecDepth 10000 in
theorem as_faults (b p : Nat) (old : Value) (A : Assn) (hu : Up A) (hA : ∀ h, A h → ErrT h) :
    Triple G 49 [.iface 108 (.pointer (some ⟨b, 0, none⟩)), .iface 133 (.pointer (some ⟨p, 0, none⟩))] ([blk p [old] 108, A]) (fun v M => v = .bool true ∧ M = [blk p [.pointer (some ⟨b, 0, none⟩)] 108, A]) := by
  refine Triple.enter Tryz.func49 rfl (by decide) rfl Tryz.ntmps49 rfl (fun F => ?_)
  repeat (first | refine GO ?_ | refine NW fun _ => ?_)
  refine WL.step rfl (OP.extNew (mk := fun n => .agg #[hd 133, .pointer (some ⟨n, 0, none⟩), .int .u64 150]) (.call xValueOf rfl rfl) (fun w _ => valueOfFF _ w) rfl rfl (fun q => ?_))
  repeat (first | refine GO ?_ | refine NW fun _ => ?_)
  refine WL.step rfl (OP.extP (.call xType rfl rfl) (fun w _ => typeFF _ w) rfl rfl ?_)
  repeat (first | refine GO ?_ | refine NW fun _ => ?_)
  refine WL.step rfl (OP.extP (.inv xKind rfl rfl rfl (fun w => mKind _ w)) (fun w _ => kindFF w) rfl rfl ?_)
  repeat (first | refine GO ?_ | refine NW fun _ => ?_)
  refine WL.guardT rfl rfl rfl rfl (OP.extP (.call xIsNil rfl rfl) (fun w s => isNilFF _ ⟨p, 0, none⟩ w (cell_of_blk0 (b := q) s MM rfl)) rfl rfl ?_)
  repeat (first | refine GO ?_ | refine NW fun _ => ?_)
  refine WL.step rfl (OP.extP (.inv xElem rfl rfl rfl (fun w => mElem _ w)) (fun w _ => elemFF w) rfl rfl ?_)
  repeat (first | refine GO ?_ | refine NW fun _ => ?_)
  refine WL.step rfl (OP.extP (.inv xKind rfl rfl rfl (fun w => mKind _ w)) (fun w _ => kindF w) rfl rfl ?_)
  repeat (first | refine GO ?_ | refine NW fun _ => ?_)
  refine WL.guardT rfl rfl rfl rfl (OP.load1 (v := errT) rfl rfl rfl rfl (Ent.mem (A := A) MM hu hA) rfl rfl ?_)
  repeat (first | refine GO ?_ | refine NW fun _ => ?_)
  refine WL.guardT rfl rfl rfl rfl (OP.extP (.inv xImplements rfl rfl rfl (fun w => mImplements _ w)) (fun w _ => implementsF w) rfl rfl ?_)
  repeat (first | refine GO ?_ | refine NW fun _ => ?_)
  refine WL.step rfl (OP.call (pre := [blk p [old] 108, blk q [.pointer (some ⟨p, 0, none⟩)] 133]) rfl rfl (asF_hit b p q old) PS rfl rfl ?_)
  rintro _ _ ⟨rfl, rfl⟩
  repeat (first | refine GO ?_ | refine NW fun _ => ?_)
  exact ret1 rfl ⟨_, ⟨rfl, rfl⟩, II⟩
set_option maxHeartbeats 4000000 in
set_option maxRecDepth 10000 in
theorem as_faultsN (p : Nat) (c : Int) (old : Value) (A : Assn) (hu : Up A) (hA : ∀ h, A h → ErrT h) :
    Triple G 49 [.iface 49 (.int .i64 c), .iface 133 (.pointer (some ⟨p, 0, none⟩))] ([blk p [old] 108, A]) (fun v M => v = .bool false ∧ M = [blk p [old] 108, A]) := by
  refine Triple.enter Tryz.func49 rfl (by decide) rfl Tryz.ntmps49 rfl (fun F => ?_)
  repeat (first | refine GO ?_ | refine NW fun _ => ?_)
  refine WL.step rfl (OP.extNew (mk := fun n => .agg #[hd 133, .pointer (some ⟨n, 0, none⟩), .int .u64 150]) (.call xValueOf rfl rfl) (fun w _ => valueOfFF _ w) rfl rfl (fun q => ?_))
  repeat (first | refine GO ?_ | refine NW fun _ => ?_)
  refine WL.step rfl (OP.extP (.call xType rfl rfl) (fun w _ => typeFF _ w) rfl rfl ?_)
  repeat (first | refine GO ?_ | refine NW fun _ => ?_)
  refine WL.step rfl (OP.extP (.inv xKind rfl rfl rfl (fun w => mKind _ w)) (fun w _ => kindFF w) rfl rfl ?_)
  repeat (first | refine GO ?_ | refine NW fun _ => ?_)
  refine WL.guardT rfl rfl rfl rfl (OP.extP (.call xIsNil rfl rfl) (fun w s => isNilFF _ ⟨p, 0, none⟩ w (cell_of_blk0 (b := q) s MM rfl)) rfl rfl ?_)
  repeat (first | refine GO ?_ | refine NW fun _ => ?_)
  refine WL.step rfl (OP.extP (.inv xElem rfl rfl rfl (fun w => mElem _ w)) (fun w _ => elemFF w) rfl rfl ?_)
  repeat (first | refine GO ?_ | refine NW fun _ => ?_)
  refine WL.step rfl (OP.extP (.inv xKind rfl rfl rfl (fun w => mKind _ w)) (fun w _ => kindF w) rfl rfl ?_)
  repeat (first | refine GO ?_ | refine NW fun _ => ?_)
  refine WL.guardT rfl rfl rfl rfl (OP.load1 (v := errT) rfl rfl rfl rfl (Ent.mem (A := A) MM hu hA) rfl rfl ?_)
  repeat (first | refine GO ?_ | refine NW fun _ => ?_)
  refine WL.guardT rfl rfl rfl rfl (OP.extP (.inv xImplements rfl rfl rfl (fun w => mImplements _ w)) (fun w _ => implementsF w) rfl rfl ?_)
  repeat (first | refine GO ?_ | refine NW fun _ => ?_)
  refine WL.step rfl (OP.call (pre := []) (F := _) rfl rfl (asF_miss p q c) (Imp.refl _) rfl rfl ?_)
  rintro _ _ ⟨rfl, rfl⟩
  repeat (first | refine GO ?_ | refine NW fun _ => ?_)
  exact ret1 rfl ⟨_, ⟨rfl, rfl⟩, II⟩
set_option maxHeartbeats 4000000 in
set_option maxRecDepth 10000 in
theorem as_code (b p : Nat) (op : ByteArray) (at_ c : Int) (old : Value) (A : Assn) (hu : Up A) (hA : ∀ h, A h → ErrT h) (hA2 : ∀ h, A h → cellsAt b 0 (faultCells op at_ c) h) :
    Triple G 49 [.iface 108 (.pointer (some ⟨b, 0, none⟩)), .iface 112 (.pointer (some ⟨p, 0, none⟩))] ([blk p [old] 49, A]) (fun v M => v = .bool true ∧ M = [blk p [.int .i64 c] 49, A]) := by
  refine Triple.enter Tryz.func49 rfl (by decide) rfl Tryz.ntmps49 rfl (fun F => ?_)
  repeat (first | refine GO ?_ | refine NW fun _ => ?_)
  refine WL.step rfl (OP.extNew (mk := fun n => .agg #[hd 112, .pointer (some ⟨n, 0, none⟩), .int .u64 150]) (.call xValueOf rfl rfl) (fun w _ => valueOfNP _ w) rfl rfl (fun q => ?_))
  repeat (first | refine GO ?_ | refine NW fun _ => ?_)
  refine WL.step rfl (OP.extP (.call xType rfl rfl) (fun w _ => typeNP _ w) rfl rfl ?_)
  repeat (first | refine GO ?_ | refine NW fun _ => ?_)
  refine WL.step rfl (OP.extP (.inv xKind rfl rfl rfl (fun w => mKind _ w)) (fun w _ => kindNP w) rfl rfl ?_)
  repeat (first | refine GO ?_ | refine NW fun _ => ?_)
  refine WL.guardT rfl rfl rfl rfl (OP.extP (.call xIsNil rfl rfl) (fun w s => isNilNP _ ⟨p, 0, none⟩ w (cell_of_blk0 (b := q) s MM rfl)) rfl rfl ?_)
  repeat (first | refine GO ?_ | refine NW fun _ => ?_)
  refine WL.step rfl (OP.extP (.inv xElem rfl rfl rfl (fun w => mElem _ w)) (fun w _ => elemNP w) rfl rfl ?_)
  repeat (first | refine GO ?_ | refine NW fun _ => ?_)
  refine WL.step rfl (OP.extP (.inv xKind rfl rfl rfl (fun w => mKind _ w)) (fun w _ => kindN w) rfl rfl ?_)
  repeat (first | refine GO ?_ | refine NW fun _ => ?_)
  refine WL.guardT rfl rfl rfl rfl (OP.load1 (v := errT) rfl rfl rfl rfl (Ent.mem (A := A) MM hu hA) rfl rfl ?_)
  repeat (first | refine GO ?_ | refine NW fun _ => ?_)
  refine WL.guardT rfl rfl rfl rfl (OP.extP (.inv xImplements rfl rfl rfl (fun w => mImplements _ w)) (fun w _ => implementsN w) rfl rfl ?_)
  repeat (first | refine GO ?_ | refine NW fun _ => ?_)
  refine WL.step rfl (OP.call (pre := [blk p [old] 49, blk q [.pointer (some ⟨p, 0, none⟩)] 112, A]) rfl rfl (asN_fault b p q op at_ c old A hu hA2) PS rfl rfl ?_)
  rintro _ _ ⟨rfl, rfl⟩
  repeat (first | refine GO ?_ | refine NW fun _ => ?_)
  exact ret1 rfl ⟨_, ⟨rfl, rfl⟩, II⟩
end Go.Proofs.YtacgheafbkfciabGreatDoor
