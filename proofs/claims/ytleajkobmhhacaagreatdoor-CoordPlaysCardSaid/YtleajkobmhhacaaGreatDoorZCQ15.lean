/- Contracts of functions of the given program, and plain laws: parts of the proofs of laws. -/
import Derived.Test.YtleajkobmhhacaaGreatDoorZCQ4
import Derived.Test.YtleajkobmhhacaaGreatDoorZCQ14
import Derived.Test.YtleajkobmhhacaaGreatDoorZCQ3
/- Contracts of functions of the given program, and plain laws on what they compute: parts of the proofs of laws. -/

namespace Go.Proofs.YtleajkobmhhacaaGreatDoor
open Go Go.GL

set_option maxRecDepth 10000 in
theorem cwrong1_ok (at_ c : Int) (h : c ≠ 0) : Triple G 76 [.int .i64 at_, .iface 91 (.int .i64 c)] [] (IsEr (some ([(coordT, at_)], c))) := by
  refine Triple.enter Tryz.func76 rfl (by decide) rfl Tryz.ntmps76 rfl (fun F => ?_)
  repeat (first | refine GO ?_ | refine NW fun _ => ?_)
  refine WL.step rfl (OP.call (pre := []) rfl rfl (wrap_ok coordT at_ c h) PS rfl rfl ?_)
  intro v M hM
  obtain ⟨M', h1, h2⟩ := hM.isEr
  repeat (first | refine GO ?_ | refine NW fun _ => ?_)
  exact ret1 rfl ⟨M', h1, Imp.app h2 _⟩
theorem rnd_rest {p : Nat} {T : TypeId} {rest : List Value} {R : Rnd} {L : List Assn} (m : rnd p T rest R ∈ L) {i : Nat} {v : Value} (hv : rest[i]? = some v) : Ent L (cellAt p (9 + i) v) :=
  Ent.mem m (up_rnd _ _ _ _) fun h ⟨x, s⟩ => by
    have hc := (Ent.whole (b := p) (c := rndC R x ++ rest) (T := T) (List.Mem.head _)) h s
    have := cellsAt_one (i := 9 + i) hc (by
      rw [List.getElem?_append_right (by show 9 ≤ 9 + i; omega)]
      show rest[9 + i - 9]? = some v
      rw [show 9 + i - 9 = i by omega]; exact hv)
    rwa [Nat.zero_add] at this
/-- the cells of a round's block: opened, changed in the rest, and closed -/
theorem CInv.jr {C : Crd} {B : Int} (I : CInv C B) (hB : B + 4 ≤ widest) : C.J.rng := I.J.rng (by omega)
def BeginCo (p q g : Nat) (fv : Fst) (C : Crd) (v : Value) (M : List Assn) : Prop := match beginC C with
  | .ok ((n, l), C') => ∃ x E, CmdsA l x E ∧ v = .tuple #[.int .i64 n, x, .nilIface] ∧ M = E ++ [crdA p q g fv C', dsk q C'.D]
  | .error (l, c) => ∃ e E, IsEr (some (l, c)) e E ∧ v = .tuple #[.int .i64 0, .slice none 0 0, e] ∧ M = E ++ [crdA p q g fv C, dsk q C.D]
set_option maxHeartbeats 8000000 in
set_option maxRecDepth 10000 in
theorem cbegin_ok (p q g : Nat) (fv : Fst) (C : Crd) (B : Int) (I : CInv C B) (hB : B + 4 ≤ widest) :
    Triple G 19 [.pointer (some ⟨p, 0, none⟩)] [crdA p q g fv C, dsk q C.D] (BeginCo p q g fv C) := by
  refine Triple.enter Tryz.func19 rfl (by decide) rfl Tryz.ntmps19 rfl (fun F => ?_)
  have hdef : beginC C = if C.R.number ≠ 0 then .error ([(coordT, C.last + 1)], 9) else if C.mem (C.last + 1) = [] then .error ([(coordT, C.last + 1)], 8)
    else match appendM C.J C.D (markR (C.last + 1)) with
    | .error c => .error ((coordT, C.last + 1) :: appEr C.J c, c)
    | .ok (J', D') => .ok ((C.last + 1, (C.R.start (C.last + 1) (C.mem (C.last + 1))).1), { C with J := J', D := D'.flush, last := C.last + 1, R := (C.R.start (C.last + 1) (C.mem (C.last + 1))).2 }) := rfl
  have hnum := I.num
  have hlast := I.last
  have hww : widest = 1152921504606846975 := rfl
  refine WC.open (M := [dsk q C.D, F]) (Ls := crdL p q g fv C) II (fun j => ?_)
  unfold crdL
  dsimp only [List.cons_append, List.nil_append]
  have hdn := cdown_ro p C.R C.last C.marked q C.J.ring j fv g
  have hgt := gat_rt g C.f C.ch (C.last + 1) I.f4 I.vols I.few
  have hap := jappend_ok j q C.J C.D (markR (C.last + 1)) (I.jr hB) I.J.ring.2.2 (by rw [I.W]; decide) (by show (0 : Nat) < 1000000; decide)
  rw [show listM (atM (C.last + 1) C.f C.ch) = C.mem (C.last + 1) from rfl] at hgt
  have hm4 : (C.mem (C.last + 1)).length ≤ 4 := by
    have := listM_len (atM (C.last + 1) C.f C.ch)
    rw [atM_length, I.f4] at this
    exact this
  have hmr : C.mem (C.last + 1) ≠ [] → RightV (C.mem (C.last + 1)) := fun h => rightV_list (by rw [atM_length]; exact I.f4) h
  generalize hmem : C.mem (C.last + 1) = mm at *
  repeat (first | refine GD ?_ | refine NW fun _ => ?_)
  refine WL.step rfl (OP.callRO rfl rfl hdn (Ent.at (up_rnd _ _ _ _) MM) rfl rfl ?_)
  repeat (first | refine GD ?_ | refine NW fun _ => ?_)
  refine WL.step rfl (OP.load1 (v := .int .i64 C.last) rfl rfl rfl rfl (rnd_rest (i := 0) (R := C.R) (T := ndT) MM rfl) rfl rfl ?_)
  repeat (first | refine GD ?_ | refine NW fun _ => ?_)
  refine WL.step rfl (OP.load1 (v := .pointer (some ⟨g, 0, none⟩)) rfl rfl rfl rfl (rnd_rest (i := 6) (R := C.R) (T := ndT) MM rfl) rfl rfl ?_)
  repeat (first | refine GD ?_ | refine NW fun _ => ?_)
  refine WL.step rfl (OP.callRT rfl rfl hgt (Ent.at (up_grp _ _ _) MM) rfl rfl ?_)
  rintro _ _ ⟨aM, cM, rfl, rfl⟩
  repeat (first | refine GD ?_ | refine NW fun _ => ?_)
  refine WL.step rfl (OP.callRO rfl rfl (rnumber_ro p ndT _ C.R) (Ent.at (up_rnd _ _ _ _) MM) rfl rfl ?_)
  by_cases h0 : C.R.number ≠ 0
  · have hop : beginC C = .error ([(coordT, C.last + 1)], 9) := by rw [hdef, if_pos h0]
    repeat (first | refine GD ?_ | refine NW fun _ => ?_)
    refine WL.step rfl (OP.call (pre := []) rfl rfl (cwrong1_ok (C.last + 1) 9 (by decide)) PS rfl rfl ?_)
    intro v M hM
    repeat (first | refine GD ?_ | refine NW fun _ => ?_)
    refine ret3 rfl rfl rfl ⟨M ++ [crdA p q g fv C, dsk q C.D], ?_, ?_⟩
    · unfold BeginCo
      rw [hop]
      exact ⟨v, M, hM, rfl, rfl⟩
    · rw [List.append_assoc]
      refine Imp.appL ?_ _
      exact Imp.trans II (Imp.trans (crdFold p q g fv C j (N := [dsk q C.D, F])) II)
  rw [if_neg h0] at hdef
  have h0 : C.R.number = 0 := Decidable.not_not.1 h0
  by_cases h1 : mm = []
  · have hop : beginC C = .error ([(coordT, C.last + 1)], 8) := by rw [hdef, if_pos h1]
    have hl0 : mm.length = 0 := by rw [h1]; rfl
    repeat (first | refine GD ?_ | refine NW fun _ => ?_)
    refine WL.step rfl (OP.call (pre := []) rfl rfl (cwrong1_ok (C.last + 1) 8 (by decide)) PS rfl rfl ?_)
    intro v M hM
    repeat (first | refine GD ?_ | refine NW fun _ => ?_)
    refine ret3 rfl rfl rfl ⟨M ++ [crdA p q g fv C, dsk q C.D], ?_, ?_⟩
    · unfold BeginCo
      rw [hop]
      exact ⟨v, M, hM, rfl, rfl⟩
    · rw [List.append_assoc]
      refine Imp.appL ?_ _
      exact Imp.trans II (Imp.trans (crdFold p q g fv C j (N := [dsk q C.D, F])) II)
  rw [if_neg h1] at hdef
  have hl1 : 0 < mm.length := List.length_pos_iff.2 h1
  have hrb := I.R.begin h0 (hmr h1)
  repeat (first | refine GD ?_ | refine NW fun _ => ?_)
  refine WL.step rfl (OP.load1 (v := .pointer (some ⟨j, 0, none⟩)) rfl rfl rfl rfl (rnd_rest (i := 4) (R := C.R) (T := ndT) MM rfl) rfl rfl ?_)
  repeat (first | refine GD ?_ | refine NW fun _ => ?_)
  unfold AppJ at hap
  cases happ : appendM C.J C.D (markR (C.last + 1)) with
  | error c =>
    rw [happ] at hap hdef
    dsimp only at hap hdef
    refine WL.step rfl (OP.call (pre := [jrn j q C.J, dsk q C.D]) rfl rfl hap PS rfl rfl ?_)
    rintro v M ⟨e, E, hEr, rfl, rfl⟩
    obtain ⟨y, ch, hc1, rfl, rfl⟩ := isEr_one hEr (by unfold appEr; split <;> simp)
    have hwr := cwrong_ok (C.last + 1) (y :: ch) c (fun h => nomatch h.1)
    dsimp only [valOf] at hwr
    repeat (first | refine GD ?_ | refine NW fun _ => ?_)
    refine WL.step rfl (OP.call (pre := [chainR (y :: ch) c]) rfl rfl hwr PS rfl rfl ?_)
    intro v M hM
    rw [hc1] at hM
    repeat (first | refine GD ?_ | refine NW fun _ => ?_)
    refine ret3 rfl rfl rfl ⟨M ++ [crdA p q g fv C, dsk q C.D], ?_, ?_⟩
    · unfold BeginCo
      rw [hdef]
      exact ⟨v, M, hM, rfl, rfl⟩
    · rw [List.append_assoc]
      refine Imp.appL ?_ _
      exact Imp.trans II (Imp.trans (crdFold p q g fv C j (N := [dsk q C.D, F])) II)
  | ok y =>
    obtain ⟨J', D'⟩ := y
    rw [happ] at hap hdef
    dsimp only at hap hdef
    obtain ⟨Ja, _, er, _⟩ := I.J.append happ
    refine WL.step rfl (OP.call (pre := [jrn j q C.J, dsk q C.D]) rfl rfl hap PS rfl rfl ?_)
    rintro _ _ ⟨rfl, rfl⟩
    repeat (first | refine GD ?_ | refine NW fun _ => ?_)
    refine WL.step rfl (OP.load1 (v := .pointer (some ⟨j, 0, none⟩)) rfl rfl rfl rfl (rnd_rest (i := 4) (R := C.R) (T := ndT) MM rfl) rfl rfl ?_)
    repeat (first | refine GD ?_ | refine NW fun _ => ?_)
    refine WL.step rfl (OP.call (pre := [jrn j q J', dsk q D']) rfl rfl (jflush_ok j q J' D' Ja.dok Ja.few) PS rfl rfl ?_)
    rintro _ _ ⟨rfl, rfl⟩
    refine WL.open (M := [jrn j q J', dsk q D'.flush, ownS aM mm.length cM 3 1 (mm.map vI), grp g C.f C.ch, F]) (Ls := rndL p ndT (restC C.last C.marked q C.J.ring (.pointer (some ⟨j, 0, none⟩)) fv g) C.R) II (fun x => ?_)
    have hback := fun (l : Int) (N : List Assn) => rndFold p ndT (restC l C.marked q C.J.ring (.pointer (some ⟨j, 0, none⟩)) fv g) C.R x (N := N)
    have hrr := rbegin_ok p ndT (restC (C.last + 1) C.marked q C.J.ring (.pointer (some ⟨j, 0, none⟩)) fv g) C.R (C.last + 1) aM mm.length cM mm (ownS aM mm.length cM 3 1 (mm.map vI)) (up_ownS _ _ _ _ _ _) (fun _ h => read_of_own h) rfl (by omega)
    unfold RBegin at hrr
    rw [hrb] at hrr
    unfold rndL
    unfold rndC restC
    dsimp only [List.cons_append, List.nil_append]
    repeat (first | refine GD ?_ | refine NW fun _ => ?_)
    refine WL.imp (M := [rnd p ndT (restC (C.last + 1) C.marked q C.J.ring (.pointer (some ⟨j, 0, none⟩)) fv g) C.R, ownS aM mm.length cM 3 1 (mm.map vI), jrn j q J', dsk q D'.flush, grp g C.f C.ch, F]) (Imp.trans II (Imp.trans (hback (C.last + 1) [ownS aM mm.length cM 3 1 (mm.map vI), jrn j q J', dsk q D'.flush, grp g C.f C.ch, F]) (Imp.refl _))) ?_
    generalize C.R.start (C.last + 1) mm = st at *
    obtain ⟨cs, R'⟩ := st
    dsimp only at hrr hdef
    refine WL.step rfl (OP.call (pre := [rnd p ndT (restC (C.last + 1) C.marked q C.J.ring (.pointer (some ⟨j, 0, none⟩)) fv g) C.R, ownS aM mm.length cM 3 1 (mm.map vI)]) rfl rfl hrr PS rfl rfl ?_)
    rintro _ _ ⟨_, ⟨x2, E, hC, rfl, rfl⟩, rfl⟩
    repeat (first | refine GD ?_ | refine NW fun _ => ?_)
    refine WL.step rfl (OP.callRO rfl rfl (cwrong_nil (C.last + 1)) (fun _ _ => trivial) rfl rfl ?_)
    repeat (first | refine GD ?_ | refine NW fun _ => ?_)
    refine ret3 rfl rfl rfl ⟨E ++ [crdA p q g fv { C with J := J', D := D'.flush, last := C.last + 1, R := R' }, dsk q D'.flush], ?_, ?_⟩
    · unfold BeginCo
      rw [hdef]
      exact ⟨x2, E, hC, rfl, rfl⟩
    · rw [List.append_assoc, List.append_assoc, List.append_assoc]
      refine Imp.appL ?_ _
      have hf := crdFold p q g fv { C with J := J', D := D'.flush, last := C.last + 1, R := R' } j (N := [dsk q D'.flush, F])
      dsimp only at hf
      rw [er] at hf
      exact Imp.trans II (Imp.trans hf II)
end Go.Proofs.YtleajkobmhhacaaGreatDoor
/- Contracts of functions of the given program, and plain laws on what they compute: parts of the proofs of laws. -/

namespace Go.Proofs.YtleajkobmhhacaaGreatDoor
open Go Go.GL

theorem openM_ne0 {D : Dsk} {ring c : Int} (h : openM D ring = .error c) : c ≠ 0 := by
  unfold openM at h
  split at h
  · cases h; decide
  · split at h
    · cases h; decide
    · cases h
theorem appendM_ne0 {J : Jrn} {D : Dsk} {r : Rec} {c : Int} (h : appendM J D r = .error c) : c ≠ 0 := by
  unfold appendM at h
  split at h
  · cases h; decide
  · split at h
    · cases h
    · cases h; decide
def QOpenCo (q : Nat) (fv : Fst) (V : Assn) (D : Dsk) (ring : Int) (fl : List Int) (v : Value) (M : List Assn) : Prop := match openC D ring fl with
  | .ok C => ∃ n, v = .tuple #[.pointer (some ⟨n, 0, none⟩), .int .i64 0] ∧ M = [nodA n q fv C, rdsk q C.D, V]
  | .error (_, c) => c ≠ 0 ∧ v = .tuple #[.pointer none, .int .i64 c] ∧ M = [V]
set_option maxHeartbeats 8000000 in
set_option maxRecDepth 10000 in
theorem qnopen_ok (q : Nat) (ring : Int) (fv : Fst) (D : Dsk) (V : Assn) (hV : Up V) (fl : List Int) (hr : ∀ h, V h → readS fv.1 fv.2.1 1 (fl.map vI) h) (hn : fv.2.1 < 1000000) (hD : D.ok) (hw : D.W.length < 10000) (hr64 : -9223372036854775808 ≤ ring ∧ ring ≤ 9223372036854775807)
    (hJ : ∀ J D', openM D ring = .ok (J, D') → J.rng ∧ ∀ x ∈ J.held, RightR x.2) :
    Triple G 16 [.pointer (some ⟨q, 0, none⟩), .int .i64 ring, .slice fv.1 fv.2.1 fv.2.2] [rdsk q D, V] (QOpenCo q fv V D ring fl) := by
  refine Triple.enter Tryz.func16 rfl (by decide) rfl Tryz.ntmps16 rfl (fun F => ?_)
  have hE : ∀ {L}, V ∈ L → Ent L (readS fv.1 fv.2.1 1 (fl.map vI)) := fun m => Ent.mem m hV hr
  have hnew := qnew_ok fv.1 fv.2.1 fv.2.2 fl hn
  have hdef : openC D ring fl = match newM fl f0 with
    | .error (v, c) => .error ([(coordT, 0), (memT, v)], c)
    | .ok f => match openM D ring with
      | .error c => .error ([(coordT, 0), (jrnT, ring)], c)
      | .ok (J, D') => .ok (startC f J D') := rfl
  repeat (first | refine GD ?_ | refine NW fun _ => ?_)
  refine WL.step rfl (OP.callRT rfl rfl hnew (hE MM) rfl rfl ?_)
  intro v E hN
  unfold QNewPost at hN
  cases hnw : newM fl f0 with
  | error vc =>
    obtain ⟨bv, c⟩ := vc
    rw [hnw] at hdef
    dsimp only at hdef
    rw [show newM fl [false, false, false, false] = .error (bv, c) from hnw] at hN
    obtain ⟨rfl, rfl⟩ := hN
    have hc0 : c ≠ 0 := by
      rcases newM_code hnw with h | h <;> omega
    repeat (first | refine GD ?_ | refine NW fun _ => ?_)
    refine ret2 rfl rfl ⟨[V], ?_, II⟩
    unfold QOpenCo
    rw [hdef]
    exact ⟨hc0, rfl, rfl⟩
  | ok f =>
    rw [hnw] at hdef
    dsimp only at hdef
    rw [show newM fl [false, false, false, false] = .ok f from hnw] at hN
    obtain ⟨g, rfl, rfl⟩ := hN
    repeat (first | refine GD ?_ | refine NW fun _ => ?_)
    rename_i n
    cases ho : openM D ring with
    | error c =>
      rw [ho] at hdef
      dsimp only at hdef
      have hc0 := openM_ne0 ho
      have hst := qstart_er n q 0 0 ring (.pointer none) (.pointer none) (.pointer none) fv D hD hw hr64 ho hc0
      refine WL.step rfl (OP.call (pre := [blk n _ nqT, rdsk q D]) rfl rfl hst PS rfl rfl ?_)
      rintro _ _ ⟨rfl, rfl⟩
      repeat (first | refine GD ?_ | refine NW fun _ => ?_)
      refine ret2 rfl rfl ⟨[V], ?_, II⟩
      unfold QOpenCo
      rw [hdef]
      exact ⟨hc0, rfl, rfl⟩
    | ok y =>
      obtain ⟨J, D'⟩ := y
      rw [ho] at hdef
      dsimp only at hdef
      obtain ⟨j1, j2⟩ := hJ J D' ho
      have hst := qstart_ok n q 0 0 ring (.pointer none) (.pointer none) (.pointer none) fv D V hV fl f hr hn hnw hD hw hr64 ho j1 j2
      refine WL.step rfl (OP.call (pre := [blk n _ nqT, rdsk q D, V]) rfl rfl hst PS rfl rfl ?_)
      rintro _ _ ⟨rfl, rfl⟩
      repeat (first | refine GD ?_ | refine NW fun _ => ?_)
      refine ret2 rfl rfl ⟨[nodA n q fv (startC f J D'), rdsk q D', V], ?_, II⟩
      unfold QOpenCo
      rw [hdef]
      exact ⟨n, rfl, rfl⟩
set_option maxHeartbeats 4000000 in
set_option maxRecDepth 10000 in
theorem qncrash_ok (n q : Nat) (fv : Fst) (C : Crd) (B : Int) (I : CInv C B) (hB : B + 4 ≤ widest) (keep : Int) (hk : 0 ≤ keep ∧ keep < 18446744073709551616) (V : Assn) (hV : Up V) (fl : List Int) (hr : ∀ h, V h → readS fv.1 fv.2.1 1 (fl.map vI) h) (hn : fv.2.1 < 1000000) (hfl : newM fl f0 = .ok C.f) :
    Triple G 30 [.pointer (some ⟨n, 0, none⟩), .int .u64 keep] [nodA n q fv C, rdsk q C.D, V]
      (fun v M => v = .int .i64 0 ∧ ∃ J' D', openM (C.D.crash keep) C.J.ring = .ok (J', D') ∧ M = [nodA n q fv { C with J := J', D := D', R := rnd0, marked := 0 }, rdsk q D', V]) := by
  refine Triple.enter Tryz.func30 rfl (by decide) rfl Tryz.ntmps30 rfl (fun F => ?_)
  obtain ⟨J', D', ho, e1, e2, e3, I'⟩ := I.crash hB keep
  have hcw : (C.D.crash keep).W.length < 10000 := by show (0 : Nat) < 10000; decide
  have hring := I.J.ring
  have hst := fun jv gv rv => qstart_ok n q C.last C.marked C.J.ring jv gv rv fv (C.D.crash keep) V hV fl C.f hr hn hfl (Dsk.settle_ok I.J.dok _) hcw (by omega) ho (I'.J.rng (by omega)) I'.J.right
  have hdc := rdcrash_ok q C.D keep hk I.J.dok (by rw [I.W]; decide)
  rw [e3] at hst
  refine WC.open (M := [rdsk q C.D, V, F]) (Ls := nodL n q fv C) II (fun x => ?_)
  have hst2 := hst (.pointer (some ⟨x.1, 0, none⟩)) (.pointer (some ⟨x.2.1, 0, none⟩)) (.pointer (some ⟨x.2.2, 0, none⟩))
  unfold nodL nodC
  dsimp only [List.cons_append, List.nil_append]
  repeat (first | refine GD ?_ | refine NW fun _ => ?_)
  refine WL.step rfl (OP.call (pre := [rdsk q C.D]) rfl rfl hdc PS rfl rfl ?_)
  rintro _ _ ⟨rfl, rfl⟩
  repeat (first | refine GD ?_ | refine NW fun _ => ?_)
  refine WL.step rfl (OP.call (pre := [blk n _ nqT, rdsk q (C.D.crash keep), V]) rfl rfl hst2 PS rfl rfl ?_)
  rintro _ _ ⟨rfl, rfl⟩
  repeat (first | refine GD ?_ | refine NW fun _ => ?_)
  exact ret1 rfl ⟨[nodA n q fv { C with J := J', D := D', R := rnd0, marked := 0 }, rdsk q D', V], ⟨rfl, J', D', ho, rfl⟩, II⟩
end Go.Proofs.YtleajkobmhhacaaGreatDoor
/- Contracts of functions of the given program, and plain laws on what they compute: parts of the proofs of laws. -/

namespace Go.Proofs.YtleajkobmhhacaaGreatDoor
open Go Go.GL

def QBeginCo (n q : Nat) (fv : Fst) (C : Crd) (v : Value) (M : List Assn) : Prop := match beginC C with
  | .ok ((k, l), C') => ∃ x E, CmdsQ l x E ∧ v = .tuple #[.int .i64 k, x, .int .i64 0] ∧ M = E ++ [nodA n q fv C', rdsk q C'.D]
  | .error (_, c) => v = .tuple #[.int .i64 0, .slice none 0 0, .int .i64 c] ∧ M = [nodA n q fv C, rdsk q C.D]
set_option maxHeartbeats 8000000 in
set_option maxRecDepth 10000 in
theorem qnbegin_ok (n q : Nat) (fv : Fst) (C : Crd) (B : Int) (I : CInv C B) (hB : B + 4 ≤ widest) :
    Triple G 20 [.pointer (some ⟨n, 0, none⟩)] [nodA n q fv C, rdsk q C.D] (QBeginCo n q fv C) := by
  refine Triple.enter Tryz.func20 rfl (by decide) rfl Tryz.ntmps20 rfl (fun F => ?_)
  have hdef : beginC C = if C.R.number ≠ 0 then .error ([(coordT, C.last + 1)], 9) else if C.mem (C.last + 1) = [] then .error ([(coordT, C.last + 1)], 8)
    else match appendM C.J C.D (markR (C.last + 1)) with
    | .error c => .error ((coordT, C.last + 1) :: appEr C.J c, c)
    | .ok (J', D') => .ok ((C.last + 1, (C.R.start (C.last + 1) (C.mem (C.last + 1))).1), { C with J := J', D := D'.flush, last := C.last + 1, R := (C.R.start (C.last + 1) (C.mem (C.last + 1))).2 }) := rfl
  have hnum := I.num
  have hlast := I.last
  have hww : widest = 1152921504606846975 := rfl
  have hlate := I.R.late
  have hgt := fun g => qgat_rt g C.f C.ch (C.last + 1) I.f4 I.inc I.vols I.few
  have hap := fun j => rappend_ok j q C.J C.D (markR (C.last + 1)) (I.jr hB) I.J.ring.2.2 (by rw [I.W]; decide) (by show (0 : Nat) < 1000000; decide)
  rw [show encR (markR (C.last + 1)) = [.int .i64 0, .int .i64 2, .int .i64 0, .string ⟨#[]⟩, .int .i64 (C.last + 1)] from rfl] at hap
  rw [show listM (atM (C.last + 1) C.f C.ch) = C.mem (C.last + 1) from rfl] at hgt
  have hm4 : (C.mem (C.last + 1)).length ≤ 4 := by
    have := listM_len (atM (C.last + 1) C.f C.ch)
    rw [atM_length, I.f4] at this
    exact this
  have hmr : C.mem (C.last + 1) ≠ [] → RightV (C.mem (C.last + 1)) := fun h => rightV_list (by rw [atM_length]; exact I.f4) h
  generalize hmem : C.mem (C.last + 1) = mm at *
  refine WC.open (M := [rdsk q C.D, F]) (Ls := nodL n q fv C) II (fun x => ?_)
  obtain ⟨j, gq, rq⟩ := x
  unfold nodL
  dsimp only [List.cons_append, List.nil_append]
  refine WC.open (Ls := qrndL rq C.R) (M := [blk n (nodC q fv C (j, gq, rq)) nqT, rjrn j q C.J, qgrp gq C.f C.ch, rdsk q C.D, F]) II (fun y => ?_)
  have hfold : Imp (qrndL rq C.R y ++ [blk n (nodC q fv C (j, gq, rq)) nqT, rjrn j q C.J, qgrp gq C.f C.ch, rdsk q C.D, F]) [nodA n q fv C, rdsk q C.D, F] := Imp.trans (qrndFold rq C.R y) (Imp.trans II (nodFold n q fv C (j, gq, rq)))
  unfold qrndL qrndC nodC at *
  dsimp only [List.cons_append, List.nil_append] at hfold ⊢
  obtain ⟨va, vc, oa, oc⟩ := y
  dsimp only at hfold ⊢
  by_cases h0 : C.R.number ≠ 0
  · have hop : beginC C = .error ([(coordT, C.last + 1)], 9) := by rw [hdef, if_pos h0]
    repeat (first | refine GD ?_ | refine NW fun _ => ?_)
    refine ret3 rfl rfl rfl ⟨[nodA n q fv C, rdsk q C.D], ?_, Imp.trans II hfold⟩
    unfold QBeginCo
    rw [hop]
    exact ⟨rfl, rfl⟩
  rw [if_neg h0] at hdef
  have h0 : C.R.number = 0 := Decidable.not_not.1 h0
  repeat (first | refine GD ?_ | refine NW fun _ => ?_)
  refine WL.step rfl (OP.callRT rfl rfl (hgt gq) (Ent.at (up_qgrp _ _ _) MM) rfl rfl ?_)
  rintro _ _ ⟨aM, cM, rfl, rfl⟩
  by_cases h1 : mm = []
  · have hop : beginC C = .error ([(coordT, C.last + 1)], 8) := by rw [hdef, if_pos h1]
    have hl0 : mm.length = 0 := by rw [h1]; rfl
    repeat (first | refine GD ?_ | refine NW fun _ => ?_)
    refine ret3 rfl rfl rfl ⟨[nodA n q fv C, rdsk q C.D], ?_, Imp.trans II hfold⟩
    unfold QBeginCo
    rw [hop]
    exact ⟨rfl, rfl⟩
  rw [if_neg h1] at hdef
  have hl1 : 0 < mm.length := List.length_pos_iff.2 h1
  have hRV := hmr h1
  have hap := hap j
  unfold RAppJ at hap
  repeat (first | refine GD ?_ | refine NW fun _ => ?_)
  cases happ : appendM C.J C.D (markR (C.last + 1)) with
  | error c =>
    rw [happ] at hap hdef
    dsimp only at hap hdef
    have hc0 := appendM_ne0 happ
    refine WL.step rfl (OP.call (pre := [rjrn j q C.J, rdsk q C.D]) rfl rfl hap PS rfl rfl ?_)
    rintro _ _ ⟨rfl, rfl⟩
    have hop : beginC C = _ := hdef
    repeat (first | refine GD ?_ | refine NW fun _ => ?_)
    refine ret3 rfl rfl rfl ⟨[nodA n q fv C, rdsk q C.D], ?_, Imp.trans II hfold⟩
    unfold QBeginCo
    rw [hop]
    exact ⟨rfl, rfl⟩
  | ok z =>
    obtain ⟨J', D'⟩ := z
    rw [happ] at hap hdef
    dsimp only at hap hdef
    obtain ⟨Ja, _, er, _⟩ := I.J.append happ
    refine WL.step rfl (OP.call (pre := [rjrn j q C.J, rdsk q C.D]) rfl rfl hap PS rfl rfl ?_)
    rintro _ _ ⟨rfl, rfl⟩
    repeat (first | refine GD ?_ | refine NW fun _ => ?_)
    have hfl := rdflush_ok q D' Ja.dok (by have := Ja.few; omega)
    refine WL.step rfl (OP.call (pre := [rdsk q D']) rfl rfl hfl PS rfl rfl ?_)
    rintro _ _ ⟨rfl, rfl⟩
    repeat (first | refine GD ?_ | refine NW fun _ => ?_)
    rw [show C.last + 1 - 1 = C.last by omega]
    have hqb := qbegin_ok rq { C.R with latest := C.last } (C.last + 1) aM mm.length cM mm (ownS aM mm.length cM 3 1 (mm.map vI)) (up_ownS _ _ _ _ _ _) (fun _ h => read_of_own h) rfl (by omega) h0 (by show C.last < C.last + 1; omega) hRV
    rw [show ({ C.R with latest := C.last } : Rnd).start (C.last + 1) mm = C.R.start (C.last + 1) mm from rfl] at hqb
    refine WL.imp (M := [qrnd rq { C.R with latest := C.last }, ownS aM mm.length cM 3 1 (mm.map vI), blk n [.pointer (some ⟨q, 0, none⟩), .pointer (some ⟨j, 0, none⟩), .int .i64 C.J.ring, .slice fv.1 fv.2.1 fv.2.2, .pointer (some ⟨gq, 0, none⟩), .pointer (some ⟨rq, 0, none⟩), .int .i64 (C.last + 1), .int .i64 C.marked] nqT, rjrn j q J', qgrp gq C.f C.ch, rdsk q D'.flush, F]) (Imp.trans II (qrndFold rq { C.R with latest := C.last } (va, vc, oa, oc))) ?_
    generalize C.R.start (C.last + 1) mm = st at *
    obtain ⟨cs, R'⟩ := st
    dsimp only at hqb hdef
    refine WL.step rfl (OP.call (pre := [qrnd rq { C.R with latest := C.last }, ownS aM mm.length cM 3 1 (mm.map vI)]) rfl rfl hqb PS rfl rfl ?_)
    rintro _ _ ⟨xv, E, hE, rfl, rfl⟩
    repeat (first | refine GD ?_ | refine NW fun _ => ?_)
    refine ret3 rfl rfl rfl ⟨E ++ [nodA n q fv { C with J := J', D := D'.flush, last := C.last + 1, R := R' }, rdsk q D'.flush], ?_, ?_⟩
    · unfold QBeginCo
      rw [hdef]
      exact ⟨xv, E, hE, rfl, rfl⟩
    · rw [List.append_assoc, List.append_assoc]
      refine Imp.appL ?_ _
      have hf := nodFold n q fv { C with J := J', D := D'.flush, last := C.last + 1, R := R' } (j, gq, rq) (N := [rdsk q D'.flush, F])
      unfold nodC at hf
      dsimp only at hf
      rw [er] at hf
      exact Imp.trans II hf
end Go.Proofs.YtleajkobmhhacaaGreatDoor
/- Contracts of functions of the given program, and plain laws on what they compute: parts of the proofs of laws. -/

namespace Go.Proofs.YtleajkobmhhacaaGreatDoor
open Go Go.GL

theorem qrnd_at {p : Nat} {R : Rnd} {L : List Assn} (m : qrnd p R ∈ L) {i : Nat} {v : Value} (hv : ∀ x, (qrndC R x)[i]? = some v) : Ent L (cellAt p (0 + i) v) :=
  Ent.mem m (up_qrnd _ _) fun h ⟨x, s⟩ => cellsAt_one (i := i) ((Ent.whole (b := p) (c := qrndC R x) (T := rqT) (List.Mem.head _)) h s) (hv x)
theorem answerR_num {R : Rnd} {c : Cmd} {l : List Cmd} {R' : Rnd} (h : answerR R c = .ok (l, R')) : R.number ≠ 0 ∧ (R'.number ≠ 0 → R'.complete = R.complete ∧ R'.done = R.done) := by
  unfold answerR at h
  split at h
  · cases h
  rename_i hn
  refine ⟨fun e => hn (.inl e), ?_⟩
  split at h
  · cases h
  split at h
  · cases h; exact fun _ => ⟨rfl, rfl⟩
  · have h2 : (nextR { R with ans := setA R.ans c.2.1 }).2 = R' := congrArg Prod.snd (Except.ok.inj h)
    rw [← h2]
    unfold nextR
    split
    · exact fun _ => ⟨rfl, rfl⟩
    · split
      · exact fun _ => ⟨rfl, rfl⟩
      · exact fun h => absurd rfl h
def QAnswerCo (n q : Nat) (fv : Fst) (C : Crd) (c : Cmd) (v : Value) (M : List Assn) : Prop := match answerC C c with
  | .ok (l, C') => ∃ x E, CmdsQ l x E ∧ v = .tuple #[x, .int .i64 0] ∧ M = E ++ [nodA n q fv C', rdsk q C'.D]
  | .error (_, c) => v = .tuple #[.slice none 0 0, .int .i64 c] ∧ M = [nodA n q fv C, rdsk q C.D]
set_option maxHeartbeats 8000000 in
set_option maxRecDepth 10000 in
theorem qnanswer_ok (n q : Nat) (fv : Fst) (C : Crd) (B : Int) (c : Cmd) (I : CInv C B) :
    Triple G 24 [.pointer (some ⟨n, 0, none⟩), .agg (encCmd c).toArray] [nodA n q fv C, rdsk q C.D] (QAnswerCo n q fv C c) := by
  refine Triple.enter Tryz.func24 rfl (by decide) rfl Tryz.ntmps24 rfl (fun F => ?_)
  obtain ⟨kd, vol, num⟩ := c
  have hdef : answerC C (kd, vol, num) = match answerR C.R (kd, vol, num) with
    | .error e => .error ([(coordT, num), (roundT, num)], e)
    | .ok (l, R') => .ok (l, { C with R := R', marked := if R'.complete = true then R'.done else C.marked }) := rfl
  refine WC.open (M := [rdsk q C.D, F]) (Ls := nodL n q fv C) II (fun x => ?_)
  obtain ⟨j, gq, rq⟩ := x
  have hfin : ∀ (R' : Rnd) (mk : Int) (N : List Assn), Imp (blk n [.pointer (some ⟨q, 0, none⟩), .pointer (some ⟨j, 0, none⟩), .int .i64 C.J.ring, .slice fv.1 fv.2.1 fv.2.2, .pointer (some ⟨gq, 0, none⟩), .pointer (some ⟨rq, 0, none⟩), .int .i64 C.last, .int .i64 mk] nqT :: rjrn j q C.J :: qgrp gq C.f C.ch :: qrnd rq R' :: N) (nodA n q fv { C with R := R', marked := mk } :: N) := fun R' mk N => nodFold n q fv { C with R := R', marked := mk } (j, gq, rq)
  unfold nodL nodC
  dsimp only [List.cons_append, List.nil_append]
  have hra := qanswer_ok rq C.R (kd, vol, num) (by have := I.R.vl; omega) (fun h => (I.R.vols h).2) (fun h => (I.R.vols h).1.2.1)
  unfold QAnswer at hra
  rw [show encCmd (kd, vol, num) = [.int .i64 kd, .int .i64 vol, .int .i64 num] from rfl] at *
  repeat (first | refine GD ?_ | refine NW fun _ => ?_)
  rename_i bc
  refine WL.step rfl (OP.load1 (v := .int .i64 C.R.number) rfl rfl rfl rfl (qrnd_at (i := 0) (R := C.R) MM (fun _ => rfl)) rfl rfl ?_)
  repeat (first | refine GD ?_ | refine NW fun _ => ?_)
  cases hop : answerR C.R (kd, vol, num) with
  | error e =>
    rw [hop] at hra hdef
    dsimp only at hra hdef
    refine RD 5 11 (_) ?_
    refine WP 0 ?_
    refine WP 1 ?_
    refine WP 2 ?_
    refine VV 3 ?_
    refine VV 4 ?_
    refine WH.only 5 rfl rfl (by kernel_rfl) rfl (OP.call (pre := [qrnd rq C.R]) rfl rfl hra PS rfl rfl (fun v M hM => ?_))
    obtain ⟨rfl, rfl⟩ := hM
    refine ⟨(fun h => nomatch h), ?_⟩
    refine WP 6 ?_
    refine WP 7 ?_
    refine WP 8 ?_
    refine WP 9 ?_
    refine WP 10 ?_
    refine DN ?_
    by_cases h0 : C.R.number = 0
    · repeat (first | refine GD ?_ | refine NW fun _ => ?_)
      refine ret2 rfl rfl ⟨[nodA n q fv C, rdsk q C.D], ?_, Imp.trans II (hfin C.R C.marked [rdsk q C.D, F])⟩
      unfold QAnswerCo
      rw [hdef]
      exact ⟨rfl, rfl⟩
    · repeat (first | refine GD ?_ | refine NW fun _ => ?_)
      refine WL.guardT rfl rfl rfl rfl (OP.load1 (v := .int .i64 C.R.number) rfl rfl rfl rfl (qrnd_at (i := 0) (R := C.R) MM (fun _ => rfl)) rfl rfl ?_)
      repeat (first | refine GD ?_ | refine NW fun _ => ?_)
      refine ret2 rfl rfl ⟨[nodA n q fv C, rdsk q C.D], ?_, Imp.trans II (hfin C.R C.marked [rdsk q C.D, F])⟩
      unfold QAnswerCo
      rw [hdef]
      exact ⟨rfl, rfl⟩
  | ok y =>
    obtain ⟨l, R'⟩ := y
    obtain ⟨hn0, hkeep⟩ := answerR_num hop
    rw [hop] at hra hdef
    dsimp only at hra hdef
    refine RD 5 11 (_) ?_
    refine WP 0 ?_
    refine WP 1 ?_
    refine WP 2 ?_
    refine VV 3 ?_
    refine VV 4 ?_
    refine WH.only 5 rfl rfl (by kernel_rfl) rfl (OP.call (pre := [qrnd rq C.R]) rfl rfl hra PS rfl rfl (fun v M hM => ?_))
    obtain ⟨x, E, hC, rfl, rfl⟩ := hM
    obtain ⟨xa, xc, rfl, rfl⟩ := hC
    refine ⟨(fun h => nomatch h), ?_⟩
    refine WP 6 ?_
    refine WP 7 ?_
    refine WP 8 ?_
    refine WP 9 ?_
    refine WP 10 ?_
    refine DN ?_
    repeat (first | refine GD ?_ | refine NW fun _ => ?_)
    refine WL.guardT rfl rfl rfl rfl (OP.load1 (v := .int .i64 R'.number) rfl rfl rfl rfl (qrnd_at (i := 0) (R := R') MM (fun _ => rfl)) rfl rfl ?_)
    by_cases hz : R'.number = 0
    · repeat (first | refine GD ?_ | refine NW fun _ => ?_)
      refine WL.guardT rfl rfl rfl rfl (OP.load1 (v := .bool R'.complete) rfl rfl rfl rfl (qrnd_at (i := 8) (R := R') MM (fun _ => rfl)) rfl rfl ?_)
      cases hcm : R'.complete with
      | false =>
        rw [hcm] at hdef
        repeat (first | refine GD ?_ | refine NW fun _ => ?_)
        refine ret2 rfl rfl ⟨[ownS xa l.length xc cqT 3 (l.flatMap encCmd)] ++ [nodA n q fv { C with R := R', marked := C.marked }, rdsk q C.D], ?_, ?_⟩
        · unfold QAnswerCo
          rw [hdef, if_neg (by decide)]
          exact ⟨_, _, ⟨xa, xc, rfl, rfl⟩, rfl, rfl⟩
        · exact Imp.trans II (Imp.trans (hfin R' C.marked [ownS xa l.length xc cqT 3 (l.flatMap encCmd), rdsk q C.D, F]) II)
      | true =>
        rw [hcm] at hdef
        repeat (first | refine GD ?_ | refine NW fun _ => ?_)
        refine WL.step rfl (OP.load1 (v := .int .i64 R'.done) rfl rfl rfl rfl (qrnd_at (i := 7) (R := R') MM (fun _ => rfl)) rfl rfl ?_)
        repeat (first | refine GD ?_ | refine NW fun _ => ?_)
        refine ret2 rfl rfl ⟨[ownS xa l.length xc cqT 3 (l.flatMap encCmd)] ++ [nodA n q fv { C with R := R', marked := R'.done }, rdsk q C.D], ?_, ?_⟩
        · unfold QAnswerCo
          rw [hdef, if_pos rfl]
          exact ⟨_, _, ⟨xa, xc, rfl, rfl⟩, rfl, rfl⟩
        · exact Imp.trans II (Imp.trans (hfin R' R'.done [ownS xa l.length xc cqT 3 (l.flatMap encCmd), rdsk q C.D, F]) II)
    · obtain ⟨k1, k2⟩ := hkeep hz
      have hmk : (if R'.complete = true then R'.done else C.marked) = C.marked := by
        split
        · rename_i hc
          rw [k2, I.full (k1 ▸ hc)]
        · rfl
      repeat (first | refine GD ?_ | refine NW fun _ => ?_)
      refine ret2 rfl rfl ⟨[ownS xa l.length xc cqT 3 (l.flatMap encCmd)] ++ [nodA n q fv { C with R := R', marked := C.marked }, rdsk q C.D], ?_, ?_⟩
      · unfold QAnswerCo
        rw [hdef, hmk]
        exact ⟨_, _, ⟨xa, xc, rfl, rfl⟩, rfl, rfl⟩
      · exact Imp.trans II (Imp.trans (hfin R' C.marked [ownS xa l.length xc cqT 3 (l.flatMap encCmd), rdsk q C.D, F]) II)
end Go.Proofs.YtleajkobmhhacaaGreatDoor
/- Contracts of functions of the given program, and plain laws on what they compute: parts of the proofs of laws. -/

namespace Go.Proofs.YtleajkobmhhacaaGreatDoor
open Go Go.GL

def QChangeCo (n q : Nat) (fv : Fst) (C : Crd) (vol : Int) (inn : Bool) (v : Value) (M : List Assn) : Prop := match changeC C vol inn with
  | .ok C' => v = .int .i64 0 ∧ M = [nodA n q fv C', rdsk q C'.D]
  | .error (_, c) => v = .int .i64 c ∧ M = [nodA n q fv C, rdsk q C.D]
theorem putM_ne0 {f : List Bool} {ch : List Ch} {c : Ch} {k : Int} (h : putM f ch c = some k) : k ≠ 0 := by
  unfold putM at h
  repeat' split at h
  all_goals first | cases h; decide | cases h
set_option maxHeartbeats 8000000 in
set_option maxRecDepth 10000 in
theorem qnchange_ok (n q : Nat) (fv : Fst) (C : Crd) (B : Int) (vol : Int) (inn : Bool) (I : CInv C B) (hB : B + 4 ≤ widest) :
    Triple G 28 [.pointer (some ⟨n, 0, none⟩), .int .i64 vol, .bool inn] [nodA n q fv C, rdsk q C.D] (QChangeCo n q fv C vol inn) := by
  refine Triple.enter Tryz.func28 rfl (by decide) rfl Tryz.ntmps28 rfl (fun F => ?_)
  have hww : widest = 1152921504606846975 := rfl
  have hnum := I.num
  have hlast := I.last
  have hjl := I.J.len
  have hdef : changeC C vol inn = if C.J.held.length = C.J.ring then .error ([(coordT, vol)], 6)
    else match putM C.f C.ch (C.last + 1, vol, !inn) with
    | some c => .error ([(coordT, vol), (memT, vol)], c)
    | none => match appendM C.J C.D (chgR vol inn) with
      | .error c => .error ((coordT, vol) :: appEr C.J c, c)
      | .ok (J', D') => .ok { C with J := J', D := D'.flush, ch := C.ch ++ [(C.last + 1, vol, !inn)] } := rfl
  have hcg := fun g => qgchange g C.f C.ch vol (C.last + 1) (!inn) I.f4 I.inc I.vols I.few
  refine WC.open (M := [rdsk q C.D, F]) (Ls := nodL n q fv C) II (fun x => ?_)
  obtain ⟨j, gq, rq⟩ := x
  unfold nodL nodC
  dsimp only [List.cons_append, List.nil_append]
  refine WC.open (Ls := rjrnL j q C.J) (show Imp _ (rjrn j q C.J :: _) from P1) (fun y => ?_)
  have hback := fun N => rjrnFold j q C.J y (N := N)
  unfold rjrnL
  dsimp only [List.cons_append, List.nil_append]
  obtain ⟨ya, yc, za, zc⟩ := y
  dsimp only at hback ⊢
  have hfold : ∀ N, Imp (blk n [.pointer (some ⟨q, 0, none⟩), .pointer (some ⟨j, 0, none⟩), .int .i64 C.J.ring, .slice fv.1 fv.2.1 fv.2.2, .pointer (some ⟨gq, 0, none⟩), .pointer (some ⟨rq, 0, none⟩), .int .i64 C.last, .int .i64 C.marked] nqT :: rjrn j q C.J :: qgrp gq C.f C.ch :: qrnd rq C.R :: N) (nodA n q fv C :: N) := fun N => nodFold n q fv C (j, gq, rq)
  repeat (first | refine GD ?_ | refine NW fun _ => ?_)
  by_cases hfull : C.J.held.length = C.J.ring
  · have hop : changeC C vol inn = .error ([(coordT, vol)], 6) := by rw [hdef, if_pos hfull]
    have hfi : (C.J.held.length : Int) = C.J.ring := by omega
    refine RD 16 16 (_) ?_
    refine WP 0 ?_
    refine WP 1 ?_
    refine WP 2 ?_
    refine VV 3 ?_
    refine WP 4 ?_
    refine WP 5 ?_
    refine VV 6 ?_
    refine WP 7 ?_
    refine WP 8 ?_
    refine WP 9 ?_
    refine WP 10 ?_
    refine VV 11 ?_
    refine WP 12 ?_
    refine WP 13 ?_
    refine VV 14 ?_
    refine WP 15 ?_
    rw [decide_eq_true hfi]
    refine DN ?_
    repeat (first | refine GD ?_ | refine NW fun _ => ?_)
    refine ret1 rfl ⟨[nodA n q fv C, rdsk q C.D], ?_, Imp.trans (Imp.trans II (hback [blk n [.pointer (some ⟨q, 0, none⟩), .pointer (some ⟨j, 0, none⟩), .int .i64 C.J.ring, .slice fv.1 fv.2.1 fv.2.2, .pointer (some ⟨gq, 0, none⟩), .pointer (some ⟨rq, 0, none⟩), .int .i64 C.last, .int .i64 C.marked] nqT, qgrp gq C.f C.ch, qrnd rq C.R, rdsk q C.D, F])) (Imp.trans II (hfold [rdsk q C.D, F]))⟩
    unfold QChangeCo
    rw [hop]
    exact ⟨rfl, rfl⟩
  rw [if_neg hfull] at hdef
  have hfi : ¬ (C.J.held.length : Int) = C.J.ring := by omega
  have hcg := hcg gq
  refine RD 16 16 (_) ?_
  refine WP 0 ?_
  refine WP 1 ?_
  refine WP 2 ?_
  refine VV 3 ?_
  refine WP 4 ?_
  refine WP 5 ?_
  refine VV 6 ?_
  refine WP 7 ?_
  refine WP 8 ?_
  refine WP 9 ?_
  refine WP 10 ?_
  refine VV 11 ?_
  refine WP 12 ?_
  refine WP 13 ?_
  refine VV 14 ?_
  refine WP 15 ?_
  rw [decide_eq_false hfi]
  refine DN ?_
  repeat (first | refine GD ?_ | refine NW fun _ => ?_)
  refine RD 12 14 (_) ?_
  refine WP 0 ?_
  refine WP 1 ?_
  refine WP 2 ?_
  refine VV 3 ?_
  refine WP 4 ?_
  refine WP 5 ?_
  refine WP 6 ?_
  refine WP 7 ?_
  refine VV 8 ?_
  refine WP 9 ?_
  refine WP 10 ?_
  refine WP 11 ?_
  refine WH.only 12 rfl rfl (by kernel_rfl) rfl (OP.call (pre := [qgrp gq C.f C.ch]) rfl rfl hcg PS rfl rfl (fun v M hM => ?_))
  obtain ⟨rfl, rfl⟩ := hM
  refine ⟨(fun h => nomatch h), ?_⟩
  refine WP 13 ?_
  refine DN ?_
  cases hp : putM C.f C.ch (C.last + 1, vol, !inn) with
  | some c =>
    rw [hp] at hdef
    dsimp only at hdef
    have hop : changeC C vol inn = _ := hdef
    have hc0 := putM_ne0 hp
    rw [show putCh C.f C.ch (C.last + 1, vol, !inn) = C.ch by unfold putCh; rw [hp], show codeM (some c) = c from rfl]
    repeat (first | refine GD ?_ | refine NW fun _ => ?_)
    refine ret1 rfl ⟨[nodA n q fv C, rdsk q C.D], ?_, Imp.trans (Imp.trans II (hback [blk n [.pointer (some ⟨q, 0, none⟩), .pointer (some ⟨j, 0, none⟩), .int .i64 C.J.ring, .slice fv.1 fv.2.1 fv.2.2, .pointer (some ⟨gq, 0, none⟩), .pointer (some ⟨rq, 0, none⟩), .int .i64 C.last, .int .i64 C.marked] nqT, qgrp gq C.f C.ch, qrnd rq C.R, rdsk q C.D, F])) (Imp.trans II (hfold [rdsk q C.D, F]))⟩
    unfold QChangeCo
    rw [hop]
    exact ⟨rfl, rfl⟩
  | none =>
    rw [hp] at hdef
    dsimp only at hdef
    obtain ⟨p1, p2, p3, p4, p5⟩ := put_none hp
    dsimp only at p1
    have hrt : appendM C.J C.D (chgR vol inn) = _ := I.right hB hfull (.inr ⟨rfl, by show 0 ≤ vol ∧ vol < 8; omega, by cases inn; exact (by decide : minusB.size ≤ 16); exact (by decide : plusB.size ≤ 16), rfl⟩)
    have hap := rappend_ok j q C.J C.D (chgR vol inn) (I.jr hB) I.J.ring.2.2 (by rw [I.W]; decide) (by cases inn; exact (by decide : minusB.size < 1000000); exact (by decide : plusB.size < 1000000))
    unfold RAppJ at hap
    obtain ⟨Ja, _, er, _⟩ := I.J.append hrt
    rw [hrt] at hap hdef
    dsimp only at hap hdef
    generalize C.D.put (posM C.J.ring C.J.next) (sectorM (bodyM C.J.hd.gen (setSeq (chgR vol inn) C.J.next))) = D' at *
    generalize (⟨C.J.ring, C.J.hd, C.J.held ++ [(C.J.hd.gen, setSeq (chgR vol inn) C.J.next)]⟩ : Jrn) = J' at *
    have hfl := rdflush_ok q D' Ja.dok (by have := Ja.few; omega)
    rw [show putCh C.f C.ch (C.last + 1, vol, !inn) = C.ch ++ [(C.last + 1, vol, !inn)] by unfold putCh; rw [hp], show codeM none = 0 from rfl]
    have hf := nodFold n q fv { C with J := J', D := D'.flush, ch := C.ch ++ [(C.last + 1, vol, !inn)] } (j, gq, rq) (N := [rdsk q D'.flush, F])
    unfold nodC at hf
    dsimp only at hf
    rw [er] at hf
    cases inn with
    | true =>
      rw [show encR (chgR vol true) = [.int .i64 0, .int .i64 1, .int .i64 vol, .string ⟨#[43]⟩, .int .i64 0] from rfl] at hap
      repeat (first | refine GD ?_ | refine NW fun _ => ?_)
      refine WL.imp (M := [rjrn j q C.J, rdsk q C.D, blk n [.pointer (some ⟨q, 0, none⟩), .pointer (some ⟨j, 0, none⟩), .int .i64 C.J.ring, .slice fv.1 fv.2.1 fv.2.2, .pointer (some ⟨gq, 0, none⟩), .pointer (some ⟨rq, 0, none⟩), .int .i64 C.last, .int .i64 C.marked] nqT, qgrp gq C.f (C.ch ++ [(C.last + 1, vol, !true)]), qrnd rq C.R, F]) (Imp.trans II (hback [rdsk q C.D, blk n [.pointer (some ⟨q, 0, none⟩), .pointer (some ⟨j, 0, none⟩), .int .i64 C.J.ring, .slice fv.1 fv.2.1 fv.2.2, .pointer (some ⟨gq, 0, none⟩), .pointer (some ⟨rq, 0, none⟩), .int .i64 C.last, .int .i64 C.marked] nqT, qgrp gq C.f (C.ch ++ [(C.last + 1, vol, !true)]), qrnd rq C.R, F])) ?_
      refine WL.step rfl (OP.call (pre := [rjrn j q C.J, rdsk q C.D]) rfl rfl hap PS rfl rfl ?_)
      rintro _ _ ⟨rfl, rfl⟩
      repeat (first | refine GD ?_ | refine NW fun _ => ?_)
      refine WL.step rfl (OP.call (pre := [rdsk q D']) rfl rfl hfl PS rfl rfl ?_)
      rintro _ _ ⟨rfl, rfl⟩
      repeat (first | refine GD ?_ | refine NW fun _ => ?_)
      refine ret1 rfl ⟨[nodA n q fv _, rdsk q D'.flush], by unfold QChangeCo; rw [hdef]; exact ⟨rfl, rfl⟩, ?_⟩
      exact Imp.trans II hf
    | false =>
      rw [show encR (chgR vol false) = [.int .i64 0, .int .i64 1, .int .i64 vol, .string ⟨#[45]⟩, .int .i64 0] from rfl] at hap
      repeat (first | refine GD ?_ | refine NW fun _ => ?_)
      refine WL.imp (M := [rjrn j q C.J, rdsk q C.D, blk n [.pointer (some ⟨q, 0, none⟩), .pointer (some ⟨j, 0, none⟩), .int .i64 C.J.ring, .slice fv.1 fv.2.1 fv.2.2, .pointer (some ⟨gq, 0, none⟩), .pointer (some ⟨rq, 0, none⟩), .int .i64 C.last, .int .i64 C.marked] nqT, qgrp gq C.f (C.ch ++ [(C.last + 1, vol, !false)]), qrnd rq C.R, F]) (Imp.trans II (hback [rdsk q C.D, blk n [.pointer (some ⟨q, 0, none⟩), .pointer (some ⟨j, 0, none⟩), .int .i64 C.J.ring, .slice fv.1 fv.2.1 fv.2.2, .pointer (some ⟨gq, 0, none⟩), .pointer (some ⟨rq, 0, none⟩), .int .i64 C.last, .int .i64 C.marked] nqT, qgrp gq C.f (C.ch ++ [(C.last + 1, vol, !false)]), qrnd rq C.R, F])) ?_
      refine WL.step rfl (OP.call (pre := [rjrn j q C.J, rdsk q C.D]) rfl rfl hap PS rfl rfl ?_)
      rintro _ _ ⟨rfl, rfl⟩
      repeat (first | refine GD ?_ | refine NW fun _ => ?_)
      refine WL.step rfl (OP.call (pre := [rdsk q D']) rfl rfl hfl PS rfl rfl ?_)
      rintro _ _ ⟨rfl, rfl⟩
      repeat (first | refine GD ?_ | refine NW fun _ => ?_)
      refine ret1 rfl ⟨[nodA n q fv _, rdsk q D'.flush], by unfold QChangeCo; rw [hdef]; exact ⟨rfl, rfl⟩, ?_⟩
      exact Imp.trans II hf
end Go.Proofs.YtleajkobmhhacaaGreatDoor
/- Contracts of functions of the given program, and plain laws on what they compute: parts of the proofs of laws. -/

namespace Go.Proofs.YtleajkobmhhacaaGreatDoor
open Go Go.GL

def AnswerCo (p q g : Nat) (fv : Fst) (C : Crd) (c : Cmd) (v : Value) (M : List Assn) : Prop := match answerC C c with
  | .ok (l, C') => ∃ x E, CmdsA l x E ∧ v = .tuple #[x, .nilIface] ∧ M = E ++ [crdA p q g fv C', dsk q C'.D]
  | .error (l, c) => ∃ e E, IsEr (some (l, c)) e E ∧ v = .tuple #[.slice none 0 0, e] ∧ M = E ++ [crdA p q g fv C, dsk q C.D]
theorem WL.storeRest {N : Nat} {env : Env} {L M : List Assn} {k : Kont} {ops : Array Oper} {rs : List Oper} {o : Oper} {p : Nat} {T : TypeId} {rest rest2 : List Value} {R : Rnd} {t : TypeId} {x y : Operand} {i off : Nat} {ti : TI} {v : Value}
    (hg : o.guard = none) (ho : o.op = .store t x y) (hx : rd none env x = some (none, .pointer (some ⟨p, off, none⟩))) (hy : rd none env y = some (none, v)) (ht : G.T.find t = some ti) (hv : cellsOf v = some [v]) (h1 : one v = true) (hl : 1 = ti.size) (hd : o.dst = none)
    (hoff : off = 9 + i) (hset : setOne rest i v = some rest2) (hi : Imp L (rnd p T rest R :: M)) (h : WL G N ops rs env (rnd p T rest2 R :: M) k) : WL G N ops (o :: rs) env L k := by
  refine WL.open hi (fun z => ?_)
  refine WL.step hg (OP.store (M := blk p (rndC R z ++ rest2) T :: ownS z.1 R.vols.length z.2.1 3 1 (R.vols.map vI) :: ansO R.ans R.number z.2.2 :: M) ho hx hy ht hv (by simp [allOne, h1]) (by simpa using hl) (UpdM.here ?_) hd ?_)
  · rw [hoff, show 9 + i = i + 9 from Nat.add_comm _ _]
    simp only [setMany, rndC, List.cons_append, List.nil_append, setOne, hset]
  · exact WL.imp (rndFold p T rest2 R z) h
set_option maxHeartbeats 8000000 in
set_option maxRecDepth 10000 in
theorem canswer_ok (p q g : Nat) (fv : Fst) (C : Crd) (B : Int) (c : Cmd) (I : CInv C B) (hvl : C.R.vols.length < 1000000) :
    Triple G 23 [.pointer (some ⟨p, 0, none⟩), .agg (encCmd c).toArray] [crdA p q g fv C, dsk q C.D] (AnswerCo p q g fv C c) := by
  refine Triple.enter Tryz.func23 rfl (by decide) rfl Tryz.ntmps23 rfl (fun F => ?_)
  obtain ⟨kd, vol, num⟩ := c
  have hdef : answerC C (kd, vol, num) = match answerR C.R (kd, vol, num) with
    | .error e => .error ([(coordT, num), (roundT, num)], e)
    | .ok (l, R') => .ok (l, { C with R := R', marked := if R'.complete = true then R'.done else C.marked }) := rfl
  refine WC.open (M := [dsk q C.D, F]) (Ls := crdL p q g fv C) II (fun j => ?_)
  unfold crdL
  dsimp only [List.cons_append, List.nil_append]
  have hdn := cdown_ro p C.R C.last C.marked q C.J.ring j fv g
  have hra := ranswer_ok p ndT (restC C.last C.marked q C.J.ring (.pointer (some ⟨j, 0, none⟩)) fv g) C.R (kd, vol, num) hvl (fun h => (I.R.vols h).2)
  unfold RAnswer at hra
  rw [show encCmd (kd, vol, num) = [.int .i64 kd, .int .i64 vol, .int .i64 num] from rfl] at *
  repeat (first | refine GD ?_ | refine NW fun _ => ?_)
  refine WL.step rfl (OP.callRO rfl rfl hdn (Ent.at (up_rnd _ _ _ _) MM) rfl rfl ?_)
  repeat (first | refine GD ?_ | refine NW fun _ => ?_)
  cases hop : answerR C.R (kd, vol, num) with
  | error e =>
    rw [hop] at hra hdef
    dsimp only at hra hdef
    refine RD 5 11 (_) ?_
    refine WP 0 ?_
    refine WP 1 ?_
    refine WP 2 ?_
    refine WP 3 ?_
    refine VV 4 ?_
    refine WH.only 5 rfl rfl (by kernel_rfl) rfl (OP.call (pre := [rnd p ndT _ C.R]) rfl rfl hra PS rfl rfl (fun v M hM => ?_))
    obtain ⟨er, E, hEr, rfl, rfl⟩ := hM
    obtain ⟨y, ch, hc1, rfl, rfl⟩ := isEr_one hEr (by simp)
    refine ⟨(fun h => nomatch h), ?_⟩
    refine WP 6 ?_
    refine WP 7 ?_
    refine WP 8 ?_
    refine WP 9 ?_
    refine WP 10 ?_
    refine DN ?_
    have hwr := cwrong_ok num (y :: ch) e (fun h => nomatch h.1)
    dsimp only [valOf] at hwr
    repeat (first | refine GD ?_ | refine NW fun _ => ?_)
    refine WL.step rfl (OP.callRO rfl rfl (rdone_ro p ndT _ C.R) (Ent.at (up_rnd _ _ _ _) MM) rfl rfl ?_)
    have hfin : Imp [rnd p ndT (restC C.last C.marked q C.J.ring (.pointer (some ⟨j, 0, none⟩)) fv g) C.R, jrn j q C.J, grp g C.f C.ch, dsk q C.D, F] [crdA p q g fv C, dsk q C.D, F] := crdFold p q g fv C j (N := [dsk q C.D, F])
    cases hcm : C.R.complete with
    | false =>
      repeat (first | refine GD ?_ | refine NW fun _ => ?_)
      refine WL.step rfl (OP.call (pre := [chainR (y :: ch) e]) rfl rfl hwr PS rfl rfl ?_)
      intro v M hM
      rw [hc1] at hM
      repeat (first | refine GD ?_ | refine NW fun _ => ?_)
      refine ret2 rfl rfl ⟨M ++ [crdA p q g fv C, dsk q C.D], ?_, ?_⟩
      · unfold AnswerCo
        rw [hdef]
        exact ⟨v, M, hM, rfl, rfl⟩
      · rw [List.append_assoc]
        refine Imp.appL ?_ _
        exact Imp.trans II hfin
    | true =>
      have hmk := I.full hcm
      repeat refine GS ?_
      refine WL.storeRest (R := C.R) (T := ndT) (i := 1) rfl rfl rfl rfl rfl rfl rfl rfl rfl rfl rfl P1 ?_
      rw [← hmk]
      repeat (first | refine GD ?_ | refine NW fun _ => ?_)
      refine WL.step rfl (OP.call (pre := [chainR (y :: ch) e]) rfl rfl hwr PS rfl rfl ?_)
      intro v M hM
      rw [hc1] at hM
      repeat (first | refine GD ?_ | refine NW fun _ => ?_)
      refine ret2 rfl rfl ⟨M ++ [crdA p q g fv C, dsk q C.D], ?_, ?_⟩
      · unfold AnswerCo
        rw [hdef]
        exact ⟨v, M, hM, rfl, rfl⟩
      · rw [List.append_assoc]
        refine Imp.appL ?_ _
        exact Imp.trans II hfin
  | ok y =>
    obtain ⟨l, R'⟩ := y
    rw [hop] at hra hdef
    dsimp only at hra hdef
    refine RD 5 11 (_) ?_
    refine WP 0 ?_
    refine WP 1 ?_
    refine WP 2 ?_
    refine WP 3 ?_
    refine VV 4 ?_
    refine WH.only 5 rfl rfl (by kernel_rfl) rfl (OP.call (pre := [rnd p ndT _ C.R]) rfl rfl hra PS rfl rfl (fun v M hM => ?_))
    obtain ⟨x, E, hC, rfl, rfl⟩ := hM
    obtain ⟨xa, xc, rfl, rfl⟩ := hC
    refine ⟨(fun h => nomatch h), ?_⟩
    refine WP 6 ?_
    refine WP 7 ?_
    refine WP 8 ?_
    refine WP 9 ?_
    refine WP 10 ?_
    refine DN ?_
    repeat (first | refine GD ?_ | refine NW fun _ => ?_)
    refine WL.step rfl (OP.callRO rfl rfl (rdone_ro p ndT _ R') (Ent.at (up_rnd _ _ _ _) MM) rfl rfl ?_)
    cases hcm : R'.complete with
    | false =>
      rw [hcm] at hdef
      repeat (first | refine GD ?_ | refine NW fun _ => ?_)
      refine WL.step rfl (OP.callRO rfl rfl (cwrong_nil num) (fun _ _ => trivial) rfl rfl ?_)
      repeat (first | refine GD ?_ | refine NW fun _ => ?_)
      refine ret2 rfl rfl ⟨[ownS xa l.length xc 60 3 (l.flatMap encCmd)] ++ [crdA p q g fv { C with R := R', marked := C.marked }, dsk q C.D], ?_, ?_⟩
      · unfold AnswerCo
        rw [hdef, if_neg (by decide)]
        exact ⟨_, _, ⟨xa, xc, rfl, rfl⟩, rfl, rfl⟩
      · have hf := crdFold p q g fv { C with R := R', marked := C.marked } j (N := [ownS xa l.length xc 60 3 (l.flatMap encCmd), dsk q C.D, F])
        dsimp only at hf
        exact Imp.trans II (Imp.trans hf II)
    | true =>
      rw [hcm] at hdef
      repeat refine GS ?_
      refine WL.storeRest (R := R') (T := ndT) (i := 1) rfl rfl rfl rfl rfl rfl rfl rfl rfl rfl rfl P1 ?_
      repeat (first | refine GD ?_ | refine NW fun _ => ?_)
      refine WL.step rfl (OP.callRO rfl rfl (cwrong_nil num) (fun _ _ => trivial) rfl rfl ?_)
      repeat (first | refine GD ?_ | refine NW fun _ => ?_)
      refine ret2 rfl rfl ⟨[ownS xa l.length xc 60 3 (l.flatMap encCmd)] ++ [crdA p q g fv { C with R := R', marked := R'.done }, dsk q C.D], ?_, ?_⟩
      · unfold AnswerCo
        rw [hdef, if_pos rfl]
        exact ⟨_, _, ⟨xa, xc, rfl, rfl⟩, rfl, rfl⟩
      · have hf := crdFold p q g fv { C with R := R', marked := R'.done } j (N := [ownS xa l.length xc 60 3 (l.flatMap encCmd), dsk q C.D, F])
        dsimp only at hf
        exact Imp.trans II (Imp.trans hf II)
set_option maxHeartbeats 4000000 in
set_option maxRecDepth 10000 in
theorem ctick_ok (p q g : Nat) (fv : Fst) (C : Crd) (B : Int) (I : CInv C B) (hvl : C.R.vols.length < 1000000) :
    Triple G 25 [.pointer (some ⟨p, 0, none⟩)] [crdA p q g fv C] (fun v M => ∃ E, CmdsA (tickC C).1 v E ∧ M = E ++ [crdA p q g fv (tickC C).2]) := by
  refine Triple.enter Tryz.func25 rfl (by decide) rfl Tryz.ntmps25 rfl (fun F => ?_)
  refine WC.open (M := [F]) (Ls := crdL p q g fv C) II (fun j => ?_)
  unfold crdL
  dsimp only [List.cons_append, List.nil_append]
  have hdn := cdown_ro p C.R C.last C.marked q C.J.ring j fv g
  have htk := rtick_ok p ndT (restC C.last C.marked q C.J.ring (.pointer (some ⟨j, 0, none⟩)) fv g) C.R hvl I.R.left
  repeat (first | refine GD ?_ | refine NW fun _ => ?_)
  refine WL.step rfl (OP.callRO rfl rfl hdn (Ent.at (up_rnd _ _ _ _) MM) rfl rfl ?_)
  repeat (first | refine GD ?_ | refine NW fun _ => ?_)
  refine WL.step rfl (OP.call (pre := [rnd p ndT _ C.R]) rfl rfl htk PS rfl rfl ?_)
  rintro v _ ⟨E, hE, rfl⟩
  repeat (first | refine GD ?_ | refine NW fun _ => ?_)
  refine ret1 rfl ⟨E ++ [crdA p q g fv (tickC C).2], ⟨E, hE, rfl⟩, ?_⟩
  rw [List.append_assoc, List.append_assoc]
  refine Imp.appL ?_ _
  exact crdFold p q g fv (tickC C).2 j (N := [F])
set_option maxHeartbeats 4000000 in
set_option maxRecDepth 10000 in
theorem crounds_ro (p q g : Nat) (fv : Fst) (C : Crd) : RO G 31 [.pointer (some ⟨p, 0, none⟩)] (crdA p q g fv C) (.tuple #[.int .i64 C.last, .int .i64 C.R.number, .int .i64 C.marked]) := by
  refine RO.enterEx Tryz.func31 rfl (by decide) rfl Tryz.ntmps31 rfl (fun j A hu hA => ?_)
  have hR : ∀ {L}, A ∈ L → Ent L (rnd p ndT (restC C.last C.marked q C.J.ring (.pointer (some ⟨j, 0, none⟩)) fv g) C.R) := fun m => Ent.of hu hA m (Ent.at (up_rnd _ _ _ _) (List.Mem.head _))
  have hC : ∀ {L} {i : Nat} {v : Value}, A ∈ L → (restC C.last C.marked q C.J.ring (.pointer (some ⟨j, 0, none⟩)) fv g)[i]? = some v → Ent L (cellAt p (9 + i) v) := fun m hv => Ent.of hu hA m (rnd_rest (R := C.R) (T := ndT) (List.Mem.head _) hv)
  have hdn := cdown_ro p C.R C.last C.marked q C.J.ring j fv g
  repeat (first | refine GD ?_ | refine NW fun _ => ?_)
  refine WL.step rfl (OP.callRO rfl rfl hdn (hR MM) rfl rfl ?_)
  repeat (first | refine GD ?_ | refine NW fun _ => ?_)
  refine RD 18 18 (_) ?_
  refine WP 0 ?_
  refine WP 1 ?_
  refine WP 2 ?_
  refine WP 3 ?_
  refine VL 4 (.int .i64 C.last) rfl rfl rfl rfl (.inl ⟨rfl, hC (i := 0) MM rfl⟩) ?_
  refine WP 5 ?_
  refine WP 6 ?_
  refine WP 7 ?_
  refine WP 8 ?_
  refine WP 10 ?_
  refine WP 11 ?_
  refine WP 12 ?_
  refine WP 13 ?_
  refine VL 14 (.int .i64 C.marked) rfl rfl rfl rfl (.inl ⟨rfl, hC (i := 1) MM rfl⟩) ?_
  refine WH.only 9 rfl rfl (by kernel_rfl) rfl (OP.callRO rfl rfl (rnumber_ro p ndT _ C.R) (hR MM) rfl rfl ⟨fun _ => II, ?_⟩)
  refine WP 15 ?_
  refine WP 16 ?_
  refine WP 17 ?_
  refine DN ?_
  repeat (first | refine GD ?_ | refine NW fun _ => ?_)
  exact ret3 rfl rfl rfl ⟨rfl, MM⟩
set_option maxRecDepth 10000 in
theorem cgroup_ro (p q g : Nat) (fv : Fst) (C : Crd) : RO G 18 [.pointer (some ⟨p, 0, none⟩)] (crdA p q g fv C) (.pointer (some ⟨g, 0, none⟩)) := by
  refine RO.enterEx Tryz.func18 rfl (by decide) rfl Tryz.ntmps18 rfl (fun j A hu hA => ?_)
  have hC : ∀ {L} {i : Nat} {v : Value}, A ∈ L → (restC C.last C.marked q C.J.ring (.pointer (some ⟨j, 0, none⟩)) fv g)[i]? = some v → Ent L (cellAt p (9 + i) v) := fun m hv => Ent.of hu hA m (rnd_rest (R := C.R) (T := ndT) (List.Mem.head _) hv)
  repeat (first | refine GD ?_ | refine NW fun _ => ?_)
  refine WL.step rfl (OP.load1 (v := .pointer (some ⟨g, 0, none⟩)) rfl rfl rfl rfl (hC (i := 6) MM rfl) rfl rfl ?_)
  repeat (first | refine GD ?_ | refine NW fun _ => ?_)
  exact ret1 rfl ⟨rfl, MM⟩
/-- the group of a coordinator -/
theorem crd_grp {p q g : Nat} {fv : Fst} {C : Crd} {L : List Assn} (m : crdA p q g fv C ∈ L) : Ent L (grp g C.f C.ch) := Ent.mem m (up_crdA _ _ _ _ _) fun h ⟨j, s⟩ => (Ent.at (A := grp g C.f C.ch) (up_grp _ _ _) (by unfold crdL; exact MM)) h s
end Go.Proofs.YtleajkobmhhacaaGreatDoor
/- Contracts of functions of the given program, and plain laws on what they compute: parts of the proofs of laws. -/

namespace Go.Proofs.YtleajkobmhhacaaGreatDoor
open Go Go.GL

def ChangeCo (p q g : Nat) (fv : Fst) (C : Crd) (vol : Int) (inn : Bool) (v : Value) (M : List Assn) : Prop := match changeC C vol inn with
  | .ok C' => v = .nilIface ∧ M = [crdA p q g fv C', dsk q C'.D]
  | .error (l, c) => ∃ E, IsEr (some (l, c)) v E ∧ M = E ++ [crdA p q g fv C, dsk q C.D]
theorem member_memT : member = memT := rfl
set_option maxHeartbeats 8000000 in
set_option maxRecDepth 10000 in
theorem cchg_ok (p q g : Nat) (fv : Fst) (C : Crd) (B : Int) (vol : Int) (inn : Bool) (I : CInv C B) (hB : B + 4 ≤ widest) :
    Triple G 27 [.pointer (some ⟨p, 0, none⟩), .int .i64 vol, .bool inn] [crdA p q g fv C, dsk q C.D] (ChangeCo p q g fv C vol inn) := by
  refine Triple.enter Tryz.func27 rfl (by decide) rfl Tryz.ntmps27 rfl (fun F => ?_)
  have hww : widest = 1152921504606846975 := rfl
  have hnum := I.num
  have hlast := I.last
  have hdef : changeC C vol inn = if C.J.held.length = C.J.ring then .error ([(coordT, vol)], 6)
    else match putM C.f C.ch (C.last + 1, vol, !inn) with
    | some c => .error ([(coordT, vol), (memT, vol)], c)
    | none => match appendM C.J C.D (chgR vol inn) with
      | .error c => .error ((coordT, vol) :: appEr C.J c, c)
      | .ok (J', D') => .ok { C with J := J', D := D'.flush, ch := C.ch ++ [(C.last + 1, vol, !inn)] } := rfl
  refine WC.open (M := [dsk q C.D, F]) (Ls := crdL p q g fv C) II (fun j => ?_)
  unfold crdL
  dsimp only [List.cons_append, List.nil_append]
  have hdn := cdown_ro p C.R C.last C.marked q C.J.ring j fv g
  have hroom := jroom_ro j q C.J (I.jr hB)
  have hcg := cchange_ok p C.R C.last C.marked q C.J.ring (.pointer (some ⟨j, 0, none⟩)) fv g C.f C.ch vol inn I.f4 I.vols I.few ⟨hlast.1, by omega⟩
  unfold ChgG PutG at hcg
  have hfin : Imp [rnd p ndT (restC C.last C.marked q C.J.ring (.pointer (some ⟨j, 0, none⟩)) fv g) C.R, jrn j q C.J, grp g C.f C.ch, dsk q C.D, F] [crdA p q g fv C, dsk q C.D, F] := crdFold p q g fv C j (N := [dsk q C.D, F])
  have hjl := I.J.len
  repeat (first | refine GD ?_ | refine NW fun _ => ?_)
  refine WL.step rfl (OP.callRO rfl rfl hdn (Ent.at (up_rnd _ _ _ _) MM) rfl rfl ?_)
  repeat (first | refine GD ?_ | refine NW fun _ => ?_)
  refine WL.step rfl (OP.load1 (v := .pointer (some ⟨j, 0, none⟩)) rfl rfl rfl rfl (rnd_rest (i := 4) (R := C.R) (T := ndT) MM rfl) rfl rfl ?_)
  repeat (first | refine GD ?_ | refine NW fun _ => ?_)
  refine WL.step rfl (OP.callRO rfl rfl hroom (Ent.at (up_jrn _ _ _) MM) rfl rfl ?_)
  by_cases hfull : C.J.held.length = C.J.ring
  · have hop : changeC C vol inn = .error ([(coordT, vol)], 6) := by rw [hdef, if_pos hfull]
    have h0 : (C.J.ring : Int) - C.J.held.length = 0 := by omega
    repeat (first | refine GD ?_ | refine NW fun _ => ?_)
    refine WL.step rfl (OP.call (pre := []) rfl rfl (cwrong1_ok vol 6 (by decide)) PS rfl rfl ?_)
    intro v M hM
    repeat (first | refine GD ?_ | refine NW fun _ => ?_)
    refine ret1 rfl ⟨M ++ [crdA p q g fv C, dsk q C.D], ?_, ?_⟩
    · unfold ChangeCo
      rw [hop]
      exact ⟨M, hM, rfl⟩
    · rw [List.append_assoc]
      refine Imp.appL ?_ _
      exact Imp.trans II hfin
  rw [if_neg hfull] at hdef
  have h0 : ¬ (C.J.ring : Int) - C.J.held.length = 0 := by omega
  repeat (first | refine GD ?_ | refine NW fun _ => ?_)
  cases hp : putM C.f C.ch (C.last + 1, vol, !inn) with
  | some c =>
    rw [hp] at hdef hcg
    dsimp only at hdef hcg
    refine WL.step rfl (OP.call (pre := [rnd p ndT _ C.R, grp g C.f C.ch]) rfl rfl hcg PS rfl rfl ?_)
    rintro v _ ⟨_, ⟨E, hF, rfl⟩, rfl⟩
    obtain ⟨M', hi, hm⟩ := hF.isEr
    obtain ⟨y, ch, hc1, rfl, rfl⟩ := isEr_one hi (by simp)
    have hwr := cwrong_ok vol (y :: ch) c (fun h => nomatch h.1)
    dsimp only [valOf] at hwr
    rw [List.append_assoc, List.append_assoc]
    refine WL.imp (Imp.app hm _) ?_
    repeat (first | refine GD ?_ | refine NW fun _ => ?_)
    refine WL.step rfl (OP.call (pre := [chainR (y :: ch) c]) rfl rfl hwr PS rfl rfl ?_)
    intro v M hM
    rw [hc1] at hM
    repeat (first | refine GD ?_ | refine NW fun _ => ?_)
    refine ret1 rfl ⟨M ++ [crdA p q g fv C, dsk q C.D], ?_, ?_⟩
    · unfold ChangeCo
      rw [hdef]
      exact ⟨M, hM, rfl⟩
    · rw [List.append_assoc]
      refine Imp.appL ?_ _
      exact Imp.trans II hfin
  | none =>
    rw [hp] at hdef hcg
    dsimp only at hdef hcg
    obtain ⟨p1, p2, p3, p4, p5⟩ := put_none hp
    dsimp only at p1
    have hrt : appendM C.J C.D (chgR vol inn) = _ := I.right hB hfull (.inr ⟨rfl, by show 0 ≤ vol ∧ vol < 8; omega, by cases inn; exact (by decide : minusB.size ≤ 16); exact (by decide : plusB.size ≤ 16), rfl⟩)
    have hap := jappend_ok j q C.J C.D (chgR vol inn) (I.jr hB) I.J.ring.2.2 (by rw [I.W]; decide) (by cases inn; exact (by decide : minusB.size < 1000000); exact (by decide : plusB.size < 1000000))
    unfold AppJ at hap
    obtain ⟨Ja, _, er, _⟩ := I.J.append hrt
    rw [hrt] at hap hdef
    dsimp only at hap hdef
    generalize C.D.put (posM C.J.ring C.J.next) (sectorM (bodyM C.J.hd.gen (setSeq (chgR vol inn) C.J.next))) = D' at *
    generalize (⟨C.J.ring, C.J.hd, C.J.held ++ [(C.J.hd.gen, setSeq (chgR vol inn) C.J.next)]⟩ : Jrn) = J' at *
    refine WL.step rfl (OP.call (pre := [rnd p ndT _ C.R, grp g C.f C.ch]) rfl rfl hcg PS rfl rfl ?_)
    rintro _ _ ⟨_, ⟨rfl, rfl⟩, rfl⟩
    cases inn with
    | true =>
      repeat (first | refine GD ?_ | refine NW fun _ => ?_)
      refine WL.step rfl (OP.load1 (v := .pointer (some ⟨j, 0, none⟩)) rfl rfl rfl rfl (rnd_rest (i := 4) (R := C.R) (T := ndT) MM rfl) rfl rfl ?_)
      repeat (first | refine GD ?_ | refine NW fun _ => ?_)
      refine WL.step rfl (OP.call (pre := [jrn j q C.J, dsk q C.D]) rfl rfl hap PS rfl rfl ?_)
      rintro _ _ ⟨rfl, rfl⟩
      repeat (first | refine GD ?_ | refine NW fun _ => ?_)
      refine WL.step rfl (OP.load1 (v := .pointer (some ⟨j, 0, none⟩)) rfl rfl rfl rfl (rnd_rest (i := 4) (R := C.R) (T := ndT) MM rfl) rfl rfl ?_)
      repeat (first | refine GD ?_ | refine NW fun _ => ?_)
      refine WL.step rfl (OP.call (pre := [jrn j q J', dsk q D']) rfl rfl (jflush_ok j q J' D' Ja.dok Ja.few) PS rfl rfl ?_)
      rintro _ _ ⟨rfl, rfl⟩
      repeat (first | refine GD ?_ | refine NW fun _ => ?_)
      refine WL.step rfl (OP.callRO rfl rfl (cwrong_nil vol) (fun _ _ => trivial) rfl rfl ?_)
      repeat (first | refine GD ?_ | refine NW fun _ => ?_)
      refine ret1 rfl ⟨[crdA p q g fv _, dsk q D'.flush], by unfold ChangeCo; rw [hdef]; exact ⟨rfl, rfl⟩, ?_⟩
      have hf := crdFold p q g fv { C with J := J', D := D'.flush, ch := C.ch ++ [(C.last + 1, vol, !true)] } j (N := [dsk q D'.flush, F])
      dsimp only at hf
      rw [er] at hf
      exact Imp.trans II hf
    | false =>
      repeat (first | refine GD ?_ | refine NW fun _ => ?_)
      refine WL.step rfl (OP.load1 (v := .pointer (some ⟨j, 0, none⟩)) rfl rfl rfl rfl (rnd_rest (i := 4) (R := C.R) (T := ndT) MM rfl) rfl rfl ?_)
      repeat (first | refine GD ?_ | refine NW fun _ => ?_)
      refine WL.step rfl (OP.call (pre := [jrn j q C.J, dsk q C.D]) rfl rfl hap PS rfl rfl ?_)
      rintro _ _ ⟨rfl, rfl⟩
      repeat (first | refine GD ?_ | refine NW fun _ => ?_)
      refine WL.step rfl (OP.load1 (v := .pointer (some ⟨j, 0, none⟩)) rfl rfl rfl rfl (rnd_rest (i := 4) (R := C.R) (T := ndT) MM rfl) rfl rfl ?_)
      repeat (first | refine GD ?_ | refine NW fun _ => ?_)
      refine WL.step rfl (OP.call (pre := [jrn j q J', dsk q D']) rfl rfl (jflush_ok j q J' D' Ja.dok Ja.few) PS rfl rfl ?_)
      rintro _ _ ⟨rfl, rfl⟩
      repeat (first | refine GD ?_ | refine NW fun _ => ?_)
      refine WL.step rfl (OP.callRO rfl rfl (cwrong_nil vol) (fun _ _ => trivial) rfl rfl ?_)
      repeat (first | refine GD ?_ | refine NW fun _ => ?_)
      refine ret1 rfl ⟨[crdA p q g fv _, dsk q D'.flush], by unfold ChangeCo; rw [hdef]; exact ⟨rfl, rfl⟩, ?_⟩
      have hf := crdFold p q g fv { C with J := J', D := D'.flush, ch := C.ch ++ [(C.last + 1, vol, !false)] } j (N := [dsk q D'.flush, F])
      dsimp only at hf
      rw [er] at hf
      exact Imp.trans II hf
end Go.Proofs.YtleajkobmhhacaaGreatDoor
/- Contracts of functions of the given program, and plain laws on what they compute: parts of the proofs of laws. -/

namespace Go.Proofs.YtleajkobmhhacaaGreatDoor
open Go Go.GL

theorem CInv.beginOk {C : Crd} {B : Int} (I : CInv C B) (hB : B + 4 ≤ widest) (h0 : C.R.number = 0) (hm : C.mem (C.last + 1) ≠ []) (hfull : C.J.held.length ≠ C.J.ring) : ∃ l C', beginC C = .ok ((C.last + 1, l), C') := by
  have hww : widest = 1152921504606846975 := rfl
  have hl := I.last
  have hn := I.num
  have ha := I.right hB hfull (r := markR (C.last + 1)) (.inl ⟨rfl, ⟨by show 1 ≤ C.last + 1; omega, by show C.last + 1 ≤ widest; omega⟩, rfl, rfl⟩)
  unfold beginC
  rw [if_neg (not_not_intro h0), if_neg hm, ha]
  exact ⟨_, _, rfl⟩
set_option maxHeartbeats 8000000 in
set_option maxRecDepth 10000 in
theorem cawake_ro : RO G 12 [] (fun _ => True) (.bool true) := by
  refine RO.enter Tryz.func12 rfl (by decide) rfl Tryz.ntmps12 rfl (fun A hu hA => ?_) (fun _ _ _ h => h)
  have hww : widest = 1152921504606846975 := rfl
  obtain ⟨J, D, ho, hr, hh, hoc, hst, I⟩ := CInv.fresh (n := 10) (ring := 8) (by decide) (by decide) (by decide) (by decide) (l := [0, 1]) (f := [true, true, false, false]) rfl
  have ho' : openM (Dsk.new 10) 8 = .ok (J, D) := ho
  have hoc' : openC (Dsk.new 10) 8 [0, 1] = .ok ⟨J, D, [true, true, false, false], [], rnd0, 0, 0⟩ := hoc
  obtain ⟨l, C', hbg⟩ := I.beginOk (by omega) rfl (show listM (atM (0 + 1) [true, true, false, false] []) ≠ [] by decide) (by rw [hh]; show ¬ (0 : Nat) = J.ring; rw [hr]; decide)
  obtain ⟨I', _, _, _, _, _, _, _, _, _, _, hl, _⟩ := I.begin (by omega) hbg
  have hl2 : l.length = 2 := by rw [hl, List.length_map]; exact (by decide : (listM (atM (0 + 1) [true, true, false, false] [])).length = 2)
  repeat (first | refine GO ?_ | refine NW fun _ => ?_)
  refine WL.step rfl (OP.callRT rfl rfl (dnew_rt 10) (fun _ _ => trivial) rfl rfl ?_)
  rintro _ _ ⟨q, rfl, rfl⟩
  repeat (first | refine GO ?_ | refine NW fun _ => ?_)
  rename_i b
  have hop := copen_ok q 8 (some ⟨b, 0, none⟩, 2, 2) (Dsk.new 10) (ownS (some ⟨b, 0, none⟩) 2 2 3 1 [vI 0, vI 1]) (up_ownS _ _ _ _ _ _) [0, 1] (fun _ h => read_of_own h) (show (2 : Nat) < 1000000 by decide) (Dsk.new_ok 10) (by decide) (by decide) (fun J2 D2 h => by
    rw [ho'] at h; cases h; exact ⟨I.jr (by omega), I.J.right⟩)
  unfold OpenCo at hop
  rw [hoc'] at hop
  refine WL.step rfl (OP.call (pre := [dsk q (Dsk.new 10), ownS (some ⟨b, 0, none⟩) 2 2 3 1 [vI 0, vI 1]]) rfl rfl hop PS rfl rfl ?_)
  rintro _ _ ⟨p, g, rfl, rfl⟩
  repeat (first | refine GO ?_ | refine NW fun _ => ?_)
  refine WL.guardT rfl rfl rfl rfl (OP.callRO rfl rfl (cgroup_ro p q g _ _) (Ent.at (up_crdA _ _ _ _ _) MM) rfl rfl ?_)
  repeat (first | refine GO ?_ | refine NW fun _ => ?_)
  have hcb := cbegin_ok p q g (some ⟨b, 0, none⟩, 2, 2) _ _ I (by omega)
  unfold BeginCo at hcb
  rw [hbg] at hcb
  refine WL.step rfl (OP.call (pre := [crdA p q g _ _, dsk q D]) rfl rfl hcb PS rfl rfl ?_)
  rintro _ _ ⟨_, _, ⟨xa, xc, rfl, rfl⟩, rfl, rfl⟩
  rw [hl2]
  repeat (first | refine GO ?_ | refine NW fun _ => ?_)
  exact ret1 rfl ⟨rfl, MM⟩
end Go.Proofs.YtleajkobmhhacaaGreatDoor
/- Contracts of functions of the given program, and plain laws on what they compute: parts of the proofs of laws. -/

namespace Go.Proofs.YtleajkobmhhacaaGreatDoor
open Go Go.GL

set_option maxHeartbeats 1000000 in
set_option maxRecDepth 10000 in
theorem csame_ro (a1 a2 : Option Addr) (n1 c1 n2 c2 : Nat) (l1 l2 : List Int) (h1 : n1 = l1.length) (h2 : n2 = l2.length) (hs : n1 < 1000000) : RO G 32 [.slice a1 n1 c1, .slice a2 n2 c2] (fun h => readS a1 n1 1 (l1.map vI) h ∧ readS a2 n2 1 (l2.map vI) h) (.bool (decide (l1 = l2))) := by
  refine RO.enter Tryz.func32 rfl (by decide) rfl Tryz.ntmps32 rfl (fun A hu hA => ?_) (up_and (up_readS _ _ _ _) (up_readS _ _ _ _))
  have hE1 : ∀ {L}, A ∈ L → Ent L (readS a1 n1 1 (l1.map vI)) := fun m => Ent.mem m hu fun k x => (hA k x).1
  have hE2 : ∀ {L}, A ∈ L → Ent L (readS a2 n2 1 (l2.map vI)) := fun m => Ent.mem m hu fun k x => (hA k x).2
  by_cases hne : n1 = n2
  rotate_left
  · have : l1 ≠ l2 := fun e => hne (by rw [h1, h2, e])
    repeat (first | refine GD ?_ | refine NW fun _ => ?_)
    exact ret1 rfl ⟨by simp [this], MM⟩
  subst hne
  repeat (first | refine GD ?_ | refine NW fun _ => ?_)
  refine WC.loop (σ := Nat) (fun k => k ≤ n1 ∧ ∀ j, j < k → l1[j]? = l2[j]?)
    (fun k => [(0, .val (.slice a1 n1 c1)), (1, .val (.slice a2 n1 c2)), (12, .val (.int .i64 n1)), (13, .val (.int .i64 k))])
    (fun k => [A]) (fun k => n1 - k) 0 ⟨Nat.zero_le _, fun j hj => by omega⟩ ⟨rfl, rfl, rfl, rfl, trivial⟩ (Imp.refl _) ?_
  rintro k ⟨hk, hall⟩
  by_cases hlt : k < n1
  rotate_left
  · repeat (first | refine GD ?_ | refine NW fun _ => ?_)
    refine ret1 rfl ⟨?_, MM⟩
    have : l1 = l2 := List.ext_getElem? fun i => by
      by_cases hi : i < k
      · exact hall i hi
      · rw [List.getElem?_eq_none (by omega), List.getElem?_eq_none (by omega)]
    simp [this]
  have hl1 : k < l1.length := by omega
  have hl2 : k < l2.length := by omega
  repeat (first | refine GD ?_ | refine NW fun _ => ?_)
  refine WC.fact (Ent.some (hE1 MM) (by omega)) ?_
  rintro ⟨b, off, rfl⟩
  refine WC.fact (Ent.some (hE2 MM) (by omega)) ?_
  rintro ⟨b', off', rfl⟩
  refine RD 9 9 (_) ?_
  refine WP 0 ?_
  refine WP 1 ?_
  refine WP 2 ?_
  refine VL 3 (vI l1[k]) rfl rfl rfl rfl (.inl ⟨rfl, Ent.elem (i := k * 1) (hE1 MM) rfl (int_at hl1)⟩) ?_
  refine WP 4 ?_
  refine WP 5 ?_
  refine WP 6 ?_
  refine VL 7 (vI l2[k]) rfl rfl rfl rfl (.inl ⟨rfl, Ent.elem (i := k * 1) (hE2 MM) rfl (int_at hl2)⟩) ?_
  refine WP 8 ?_
  refine DN ?_
  by_cases he : l1[k] = l2[k]
  · rw [decide_eq_true he]
    repeat (first | refine GD ?_ | refine NW fun _ => ?_)
    exact ⟨k + 1, ⟨by omega, fun j hj => by
      by_cases e : j = k
      · subst e; rw [List.getElem?_eq_getElem hl1, List.getElem?_eq_getElem hl2, he]
      · exact hall j (by omega)⟩, by omega, ⟨rfl, rfl, rfl, rfl, trivial⟩, Imp.refl _⟩
  · rw [decide_eq_false he]
    repeat (first | refine GD ?_ | refine NW fun _ => ?_)
    refine ret1 rfl ⟨?_, MM⟩
    have : l1 ≠ l2 := fun e => he (by subst e; rfl)
    simp [this]
end Go.Proofs.YtleajkobmhhacaaGreatDoor
/- Contracts of functions of the given program, and plain laws on what they compute: parts of the proofs of laws. -/

namespace Go.Proofs.YtleajkobmhhacaaGreatDoor
open Go Go.GL

set_option maxHeartbeats 4000000 in
set_option maxRecDepth 10000 in
theorem clist_rt (a : Option Addr) (n c : Nat) (l : List Cmd) (hn : n = l.length) (hs : n < 1000000) : RT G 22 [.slice a n c] (readS a n 3 (l.flatMap encCmd)) (CmdsQ l) := by
  refine RT.enter Tryz.func22 rfl (by decide) rfl Tryz.ntmps22 rfl (fun A hu hA => ?_)
  have hE : ∀ {L}, A ∈ L → Ent L (readS a n 3 (l.flatMap encCmd)) := fun m => Ent.mem m hu hA
  repeat (first | refine GD ?_ | refine NW fun _ => ?_)
  refine WC.imp (Imp.nilS cqT 3) ?_
  refine WC.loop (σ := Nat × Option Addr × Nat) (fun s => s.1 ≤ l.length)
    (fun s => [(0, .val (.slice a n c)), (3, .val (.slice s.2.1 s.1 s.2.2)), (6, .val (.int .i64 n)), (7, .val (.int .i64 s.1))])
    (fun s => [ownS s.2.1 s.1 s.2.2 cqT 3 ((l.take s.1).flatMap encCmd), A]) (fun s => l.length - s.1) (0, none, 0) (Nat.zero_le _) ⟨rfl, rfl, rfl, rfl, trivial⟩ (Imp.refl _) ?_
  rintro ⟨k, a7, cap⟩ hk
  dsimp only at hk ⊢
  by_cases hlt : k < l.length
  rotate_left
  · have he : k = l.length := by omega
    subst he
    rw [List.take_length]
    repeat (first | refine GD ?_ | refine NW fun _ => ?_)
    exact ret1 rfl ⟨_, ⟨a7, cap, rfl, rfl⟩, Imp.refl _⟩
  refine WC.fact (Ent.some (hE MM) (by omega)) ?_
  rintro ⟨b, off, rfl⟩
  have hsn : (l.take (k + 1)).flatMap encCmd = (l.take k).flatMap encCmd ++ encCmd l[k] := by
    rw [← List.take_append_getElem hlt, List.flatMap_append]; simp
  have hel : ∀ {L}, A ∈ L → Ent L (cellsAt b (off + k * 3) (encCmd l[k])) := fun m => Ent.elA encCmd_len (hE m) hlt
  generalize l[k] = cm at *
  repeat (first | refine GD ?_ | refine NW fun _ => ?_)
  refine WL.step rfl (OP.loadA (l := encCmd cm) rfl rfl rfl rfl (hel MM) rfl rfl rfl ?_)
  obtain ⟨kd, vol, num⟩ := cm
  rw [show encCmd (kd, vol, num) = [.int .i64 kd, .int .i64 vol, .int .i64 num] from rfl] at *
  repeat (first | refine GD ?_ | refine NW fun _ => ?_)
  refine WL.step rfl (OP.append rfl rfl rfl rfl rfl rfl rfl rfl rfl (show Imp _ (ownS a7 k cap cqT 3 ((l.take k).flatMap encCmd) :: _) from P1) (Ent.own MM) rfl (by omega) (by omega) rfl rfl (fun a' cap' => ?_))
  repeat (first | refine GD ?_ | refine NW fun _ => ?_)
  exact ⟨(k + 1, a', cap'), by dsimp only; omega, by dsimp only; omega, ⟨rfl, rfl, rfl, rfl, trivial⟩, by dsimp only; rw [hsn]; exact II⟩
set_option maxHeartbeats 4000000 in
set_option maxRecDepth 10000 in
theorem cqsame_ro (a1 a2 : Option Addr) (n1 c1 n2 c2 : Nat) (l : List Cmd) (h1 : n1 = l.length) (h2 : n2 = l.length) (hs : n1 < 1000000) : RO G 21 [.slice a1 n1 c1, .slice a2 n2 c2] (fun h => readS a1 n1 3 (l.flatMap encCmd) h ∧ readS a2 n2 3 (l.flatMap encCmd) h) (.bool true) := by
  refine RO.enter Tryz.func21 rfl (by decide) rfl Tryz.ntmps21 rfl (fun A hu hA => ?_) (up_and (up_readS _ _ _ _) (up_readS _ _ _ _))
  have hE1 : ∀ {L}, A ∈ L → Ent L (readS a1 n1 3 (l.flatMap encCmd)) := fun m => Ent.mem m hu fun k x => (hA k x).1
  have hE2 : ∀ {L}, A ∈ L → Ent L (readS a2 n2 3 (l.flatMap encCmd)) := fun m => Ent.mem m hu fun k x => (hA k x).2
  have hne : n1 = n2 := by omega
  subst hne
  repeat (first | refine GD ?_ | refine NW fun _ => ?_)
  refine WC.loop (σ := Nat) (fun k => k ≤ n1)
    (fun k => [(0, .val (.slice a1 n1 c1)), (1, .val (.slice a2 n1 c2)), (12, .val (.int .i64 n1)), (13, .val (.int .i64 k))])
    (fun k => [A]) (fun k => n1 - k) 0 (Nat.zero_le _) ⟨rfl, rfl, rfl, rfl, trivial⟩ (Imp.refl _) ?_
  intro k hk
  by_cases hlt : k < n1
  rotate_left
  · repeat (first | refine GD ?_ | refine NW fun _ => ?_)
    exact ret1 rfl ⟨rfl, MM⟩
  have hl1 : k < l.length := by omega
  repeat (first | refine GD ?_ | refine NW fun _ => ?_)
  refine WC.fact (Ent.some (hE1 MM) (by omega)) ?_
  rintro ⟨b, off, rfl⟩
  refine WC.fact (Ent.some (hE2 MM) (by omega)) ?_
  rintro ⟨b', off', rfl⟩
  have hel1 : ∀ {L}, A ∈ L → Ent L (cellsAt b (off + k * 3) (encCmd l[k])) := fun m => Ent.elA encCmd_len (hE1 m) hl1
  have hel2 : ∀ {L}, A ∈ L → Ent L (cellsAt b' (off' + k * 3) (encCmd l[k])) := fun m => Ent.elA encCmd_len (hE2 m) hl1
  generalize l[k] = cm at *
  refine RD 9 9 (_) ?_
  refine WP 0 ?_
  refine WP 1 ?_
  refine WP 2 ?_
  refine VL 3 (.agg (encCmd cm).toArray) rfl rfl rfl rfl (.inr ⟨rfl, encCmd cm, rfl, rfl, hel1 MM⟩) ?_
  refine WP 4 ?_
  refine WP 5 ?_
  refine WP 6 ?_
  refine VL 7 (.agg (encCmd cm).toArray) rfl rfl rfl rfl (.inr ⟨rfl, encCmd cm, rfl, rfl, hel2 MM⟩) ?_
  refine VQ 8 rfl (Quiet.eqAgg (EqAgg.neqSelf (xs := encCmd cm) rfl rfl rfl rfl (by kernel_rfl) (by kernel_rfl) (by kernel_rfl) rfl)) ?_
  refine DN ?_
  repeat (first | refine GD ?_ | refine NW fun _ => ?_)
  exact ⟨k + 1, by omega, by omega, ⟨rfl, rfl, rfl, rfl, trivial⟩, Imp.refl _⟩
end Go.Proofs.YtleajkobmhhacaaGreatDoor
