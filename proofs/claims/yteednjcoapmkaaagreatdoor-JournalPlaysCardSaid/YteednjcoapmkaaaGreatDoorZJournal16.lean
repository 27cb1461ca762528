/- Contracts of functions of the given program, and plain laws: parts of the proofs of laws. -/
import Derived.Test.YteednjcoapmkaaaGreatDoorZJournal7
import Derived.Test.YteednjcoapmkaaaGreatDoorZJournal15
import Derived.Test.YteednjcoapmkaaaGreatDoorZJournal14
/- Contracts of functions of the given program, and plain laws on what they compute: parts of the proofs of laws. -/

namespace Go.Proofs.YteednjcoapmkaaaGreatDoor
open Go Go.GL

def jrnT : ByteArray := ⟨#[106, 111, 117, 114, 110, 97, 108]⟩
theorem headOf_wide {b : List UInt8} {slot : Int} {h : Hd} (e : headOf b slot = some h) : (0 ≤ h.turn ∧ h.turn ≤ widest) ∧ (0 ≤ h.first ∧ h.first ≤ widest) ∧ (0 ≤ h.gen ∧ h.gen ≤ widest) := by
  unfold headOf at e
  split at e
  · simp only [Option.some.injEq] at e
    subst e
    unfold hd4
    exact ⟨numR_wide _, numR_wide _, numR_wide _⟩
  · cases e
theorem newestM_wide {a b : List UInt8} {h : Hd} (e : newestM a b = some h) : (0 ≤ h.turn ∧ h.turn ≤ widest) ∧ (0 ≤ h.first ∧ h.first ≤ widest) ∧ (0 ≤ h.gen ∧ h.gen ≤ widest) := by
  have hz : (0 ≤ hd0.turn ∧ hd0.turn ≤ widest) ∧ (0 ≤ hd0.first ∧ hd0.first ≤ widest) ∧ (0 ≤ hd0.gen ∧ hd0.gen ≤ widest) := by decide
  unfold newestM at e
  split at e
  · rename_i x y hx hy
    split at e
    · cases e; exact headOf_wide hy
    · cases e; exact headOf_wide hx
  · rename_i x hx hy; cases e; exact headOf_wide hx
  · rename_i y hx hy; cases e; exact headOf_wide hy
  · split at e
    · cases e; exact hz
    · cases e
theorem scanF_len (D : Dsk) (ring : Nat) (h : Hd) : ∀ (k : Nat) (l : List Held) (low : Int), (scanF D ring h k l low).length ≤ l.length + k
  | 0, l, low => Nat.le_refl _
  | k + 1, l, low => by
    rw [scanF]
    split
    · rename_i x hx
      have := scanF_len D ring h k (l ++ [x]) x.1
      simp at this ⊢
      omega
    · omega
theorem scanM_len (D : Dsk) (ring : Nat) (h : Hd) : (scanM D ring h).length ≤ ring := by
  have := scanF_len D ring h ring [] h.low
  simp only [List.length_nil, Nat.zero_add] at this
  exact this
def OpenJ (p : Nat) (D : Dsk) (ring : Int) (v : Value) (M : List Assn) : Prop := match openM D ring with
  | .ok (J, D') => ∃ j, v = .tuple #[.pointer (some ⟨j, 0, none⟩), .nilIface] ∧ M = [jrn j p J, dsk p D']
  | .error c => ∃ e E, IsEr (some ([(jrnT, ring)], c)) e E ∧ v = .tuple #[.pointer none, e] ∧ M = E ++ [dsk p D]
set_option maxHeartbeats 2000000 in
set_option maxRecDepth 10000 in
theorem jopen_ok (p : Nat) (D : Dsk) (ring : Int) (hD : D.ok) (hw : D.W.length < 10000) (hr64 : -9223372036854775808 ≤ ring ∧ ring ≤ 9223372036854775807) :
    Triple G 10 [.pointer (some ⟨p, 0, none⟩), .int .i64 ring] [dsk p D] (OpenJ p D ring) := by
  refine Triple.enter Tryz.func10 rfl (by decide) rfl Tryz.ntmps10 rfl (fun F => ?_)
  have hwd : widest = 1152921504606846975 := rfl
  have hfew := hD.few
  have hdef : openM D ring = if ring < 1 ∨ 512 < ring ∨ (D.S.length : Int) < 2 + ring then .error 1
    else match newestM (D.cur 0) (D.cur 1) with
    | none => .error 4
    | some h => .ok (⟨ring.toNat, { h with gen := h.gen + 1, turn := h.turn + 1 }, scanM D ring.toNat h⟩, saveM D { h with gen := h.gen + 1, turn := h.turn + 1 }) := rfl
  by_cases h1 : ring < 1
  · have hop : openM D ring = .error 1 := by rw [hdef, if_pos (.inl h1)]
    repeat (first | refine GD ?_ | refine NW fun _ => ?_)
    refine WL.step rfl (OP.call (pre := []) rfl rfl (wrap_ok jrnT ring 1 (by decide)) PS rfl rfl ?_)
    intro v M hF
    obtain ⟨M', h1, h2⟩ := hF.isEr
    repeat (first | refine GD ?_ | refine NW fun _ => ?_)
    refine ret2 rfl rfl ⟨M' ++ [dsk p D], ?_, ?_⟩
    · unfold OpenJ
      rw [hop]
      exact ⟨v, M', h1, rfl, rfl⟩
    · rw [List.append_assoc]
      exact (Imp.app h2 _).trans (Imp.appL II _)
  by_cases h2 : 512 < ring
  · have hop : openM D ring = .error 1 := by rw [hdef, if_pos (.inr (.inl h2))]
    repeat (first | refine GD ?_ | refine NW fun _ => ?_)
    refine WL.step rfl (OP.call (pre := []) rfl rfl (wrap_ok jrnT ring 1 (by decide)) PS rfl rfl ?_)
    intro v M hF
    obtain ⟨M', h1, h2⟩ := hF.isEr
    repeat (first | refine GD ?_ | refine NW fun _ => ?_)
    refine ret2 rfl rfl ⟨M' ++ [dsk p D], ?_, ?_⟩
    · unfold OpenJ
      rw [hop]
      exact ⟨v, M', h1, rfl, rfl⟩
    · rw [List.append_assoc]
      exact (Imp.app h2 _).trans (Imp.appL II _)
  repeat (first | refine GD ?_ | refine NW fun _ => ?_)
  refine WL.guardT rfl rfl rfl rfl (OP.callRO rfl rfl (dlen_ro p D) (Ent.at (up_dsk p D) MM) rfl rfl ?_)
  by_cases h3 : (D.S.length : Int) < 2 + ring
  · have hop : openM D ring = .error 1 := by rw [hdef, if_pos (.inr (.inr h3))]
    repeat (first | refine GD ?_ | refine NW fun _ => ?_)
    refine WL.step rfl (OP.call (pre := []) rfl rfl (wrap_ok jrnT ring 1 (by decide)) PS rfl rfl ?_)
    intro v M hF
    obtain ⟨M', h1, h2⟩ := hF.isEr
    repeat (first | refine GD ?_ | refine NW fun _ => ?_)
    refine ret2 rfl rfl ⟨M' ++ [dsk p D], ?_, ?_⟩
    · unfold OpenJ
      rw [hop]
      exact ⟨v, M', h1, rfl, rfl⟩
    · rw [List.append_assoc]
      exact (Imp.app h2 _).trans (Imp.appL II _)
  rw [if_neg (by omega)] at hdef
  have hnw := newest_rt p D hD (by omega) (by omega)
  repeat (first | refine GD ?_ | refine NW fun _ => ?_)
  refine WL.step rfl (OP.callRT rfl rfl hnw (Ent.at (up_dsk p D) MM) rfl rfl ?_)
  rintro v E ⟨hN, rfl⟩
  unfold NewPost at hN
  cases hq : newestM (D.cur 0) (D.cur 1) with
  | none =>
    rw [hq] at hN hdef
    obtain ⟨h', rfl⟩ := hN
    have hop : openM D ring = .error 4 := hdef
    repeat (first | refine GD ?_ | refine NW fun _ => ?_)
    refine WL.step rfl (OP.call (pre := []) rfl rfl (wrap_ok jrnT ring 4 (by decide)) PS rfl rfl ?_)
    intro v M hF
    obtain ⟨M', h1, h2⟩ := hF.isEr
    repeat (first | refine GD ?_ | refine NW fun _ => ?_)
    refine ret2 rfl rfl ⟨M' ++ [dsk p D], ?_, ?_⟩
    · unfold OpenJ
      rw [hop]
      exact ⟨v, M', h1, rfl, rfl⟩
    · rw [List.append_assoc]
      exact (Imp.app h2 _).trans (Imp.appL II _)
  | some h =>
    rw [hq] at hN hdef
    obtain rfl := hN
    obtain ⟨⟨t1, t2⟩, ⟨f1, f2⟩, ⟨g1, g2⟩⟩ := newestM_wide hq
    obtain ⟨n, rfl⟩ : ∃ n : Nat, ring = n := ⟨ring.toNat, by omega⟩
    rw [Int.toNat_natCast] at hdef
    dsimp only at hdef
    have hsl := scanM_len D n h
    have hsc := fun j => jscan_ok j p n h D ⟨by omega, by omega⟩ ⟨f1, by omega⟩ hD (by omega) hw ⟨t1, by omega⟩ ⟨g1, by omega⟩
    repeat (first | refine GD ?_ | refine NW fun _ => ?_)
    rename_i j
    refine WL.imp (M := [jrn j p ⟨n, h, []⟩, dsk p D, F]) ((Imp.nilS 120 6).trans (Imp.trans II (jrnFold j p ⟨n, h, []⟩ (none, 0)))) ?_
    refine WL.step rfl (OP.call (pre := [jrn j p ⟨n, h, []⟩, dsk p D]) rfl rfl (hsc j) PS rfl rfl ?_)
    rintro _ _ ⟨rfl, rfl⟩
    have hsv := jsave_ok j p ⟨n, ⟨h.turn, h.first, h.gen + 1, h.low⟩, scanM D n h⟩ D ⟨t1, by dsimp only; omega⟩ hD (by omega) hw
    generalize scanM D n h = l at *
    refine WL.open P1 (fun x => ?_)
    unfold jrnL
    dsimp only [List.cons_append, List.nil_append]
    repeat (first | refine GD ?_ | refine NW fun _ => ?_)
    refine WL.imp (M := [jrn j p ⟨n, ⟨h.turn, h.first, h.gen + 1, h.low⟩, l⟩, dsk p D, F]) (Imp.trans II (jrnFold j p ⟨n, ⟨h.turn, h.first, h.gen + 1, h.low⟩, l⟩ x)) ?_
    refine WL.step rfl (OP.call (pre := [jrn j p ⟨n, ⟨h.turn, h.first, h.gen + 1, h.low⟩, l⟩, dsk p D]) rfl rfl hsv PS rfl rfl ?_)
    rintro _ _ ⟨rfl, rfl⟩
    repeat (first | refine GD ?_ | refine NW fun _ => ?_)
    refine ret2 rfl rfl ⟨_, ?_, Imp.refl _⟩
    unfold OpenJ
    rw [hdef]
    exact ⟨j, rfl, rfl⟩
set_option maxRecDepth 10000 in
theorem jflush_ok (j p : Nat) (J : Jrn) (D : Dsk) (hD : D.ok) (hw : D.W.length < 10000) :
    Triple G 17 [.pointer (some ⟨j, 0, none⟩)] [jrn j p J, dsk p D] (fun v M => v = .tuple #[] ∧ M = [jrn j p J, dsk p D.flush]) := by
  refine Triple.enter Tryz.func17 rfl (by decide) rfl Tryz.ntmps17 rfl (fun F => ?_)
  refine WC.open P1 (fun x => ?_)
  unfold jrnL
  dsimp only [List.cons_append, List.nil_append]
  repeat (first | refine GO ?_ | refine NW fun _ => ?_)
  refine WL.step rfl (OP.call (pre := [dsk p D]) rfl rfl (dflush_ok p D hD (by omega)) PS rfl rfl ?_)
  rintro _ _ ⟨rfl, rfl⟩
  repeat (first | refine GO ?_ | refine NW fun _ => ?_)
  exact ret0n ⟨_, ⟨rfl, rfl⟩, Imp.trans II (jrnFold j p J x)⟩
/-- what is told: the records -/
def RecsPost (l : List Held) (v : Value) (E : List Assn) : Prop := ∃ a cap, v = .slice a l.length cap ∧ E = [ownS a l.length cap 42 5 (l.flatMap (fun x => encR x.2))]
set_option maxHeartbeats 1000000 in
set_option maxRecDepth 10000 in
theorem jrecords_rt (j p : Nat) (J : Jrn) (hJ : J.rng) : RT G 24 [.pointer (some ⟨j, 0, none⟩)] (jrn j p J) (RecsPost J.held) := by
  refine RT.enterEx Tryz.func24 rfl (by decide) rfl Tryz.ntmps24 rfl (fun x A hu hA => ?_)
  have hB : ∀ {L}, A ∈ L → Ent L (cellsAt j 0 [.pointer (some ⟨p, 0, none⟩), .int .i64 J.ring, .int .i64 J.hd.turn, .int .i64 J.hd.first, .int .i64 J.hd.gen, .int .i64 J.hd.low, .slice x.1 J.held.length x.2]) := fun m => Ent.of hu hA m (Ent.whole (List.Mem.head _))
  have hH : ∀ {L}, A ∈ L → Ent L (readS x.1 J.held.length 6 (J.held.flatMap heldC)) := fun m => Ent.of hu hA m (Ent.own (List.Mem.tail _ (List.Mem.head _)))
  obtain ⟨⟨r1, r2⟩, hlen, _, _, _⟩ := hJ
  obtain ⟨ring, hd, l⟩ := J
  dsimp only at hB hH hlen r2 ⊢
  repeat (first | refine GO ?_ | refine NW fun _ => ?_)
  refine WL.step rfl (OP.load1 (v := .slice x.1 l.length x.2) rfl rfl rfl rfl (Ent.one (i := 6) (hB MM) rfl) rfl rfl ?_)
  repeat (first | refine GO ?_ | refine NW fun _ => ?_)
  refine WC.imp (Imp.nilS 42 5) ?_
  refine WC.loop (σ := Nat × Option Addr × Nat) (fun s => s.1 ≤ l.length)
    (fun s => [(0, .val (.pointer (some ⟨j, 0, none⟩))), (3, .val (.slice s.2.1 s.1 s.2.2)), (11, .val (.slice x.1 l.length x.2)), (12, .val (.int .i64 l.length)), (13, .val (.int .i64 s.1))])
    (fun s => [ownS s.2.1 s.1 s.2.2 42 5 ((l.take s.1).flatMap (fun x => encR x.2)), A]) (fun s => l.length - s.1) (0, none, 0) (Nat.zero_le _) ⟨rfl, rfl, rfl, rfl, rfl, trivial⟩ (Imp.refl _) ?_
  rintro ⟨k, a, cap⟩ hk
  dsimp only at hk ⊢
  by_cases hlt : k < l.length
  rotate_left
  · have he : k = l.length := by omega
    subst he
    rw [List.take_length]
    repeat (first | refine GD ?_ | refine NW fun _ => ?_)
    exact ret1 rfl ⟨_, ⟨a, cap, rfl, rfl⟩, Imp.refl _⟩
  have hsn : (l.take (k + 1)).flatMap (fun x => encR x.2) = (l.take k).flatMap (fun x => encR x.2) ++ encR l[k].2 := by
    rw [← List.take_append_getElem hlt, List.flatMap_append, List.flatMap_cons, List.flatMap_nil, List.append_nil]
  refine WC.fact (Ent.some (hH MM) (by omega)) ?_
  rintro ⟨b, off, hx⟩
  rw [hx]
  rw [hx] at hH
  repeat (first | refine GD ?_ | refine NW fun _ => ?_)
  refine WL.step rfl (OP.loadA (l := heldC l[k]) rfl rfl rfl rfl (Ent.elA heldC_len (hH MM) hlt) rfl rfl rfl ?_)
  generalize l[k] = e at *
  obtain ⟨g, r⟩ := e
  dsimp only at hsn
  repeat (first | refine GD ?_ | refine NW fun _ => ?_)
  refine WL.step rfl (OP.append (ds := encR r) rfl rfl rfl rfl rfl rfl rfl rfl rfl P1 (Ent.own MM) rfl (by omega) (by omega) rfl rfl (fun a' cap' => ?_))
  repeat (first | refine GD ?_ | refine NW fun _ => ?_)
  exact ⟨(k + 1, a', cap'), by dsimp only; omega, by dsimp only; omega, ⟨rfl, rfl, rfl, rfl, rfl, trivial⟩, by dsimp only; rw [hsn]; exact II⟩
end Go.Proofs.YteednjcoapmkaaaGreatDoor
/- Contracts of functions of the given program, and plain laws on what they compute: parts of the proofs of laws. -/

namespace Go.Proofs.YteednjcoapmkaaaGreatDoor
open Go Go.GL

/-! the document's journal: its parts -/
def genC (x : Held) : Value := .int .i64 x.1
def rjrnL (j p : Nat) (J : Jrn) (x : Option Addr × Nat × Option Addr × Nat) : List Assn :=
  [blk j [.pointer (some ⟨p, 0, none⟩), .int .i64 J.ring, .int .i64 J.hd.turn, .int .i64 J.hd.first, .int .i64 J.hd.gen, .int .i64 J.hd.low, .slice x.1 J.held.length x.2.1, .slice x.2.2.1 J.held.length x.2.2.2] 59,
   ownS x.1 J.held.length x.2.1 42 5 (J.held.flatMap (fun x => encR x.2)), ownS x.2.2.1 J.held.length x.2.2.2 3 1 (J.held.map genC)]
def rjrn (j p : Nat) (J : Jrn) : Assn := exA (rjrnL j p J)
theorem up_rjrn (j p : Nat) (J : Jrn) : Up (rjrn j p J) := up_exA _
theorem rjrnFold (j p : Nat) (J : Jrn) (x : Option Addr × Nat × Option Addr × Nat) {N : List Assn} : Imp
    (blk j [.pointer (some ⟨p, 0, none⟩), .int .i64 J.ring, .int .i64 J.hd.turn, .int .i64 J.hd.first, .int .i64 J.hd.gen, .int .i64 J.hd.low, .slice x.1 J.held.length x.2.1, .slice x.2.2.1 J.held.length x.2.2.2] 59 ::
      ownS x.1 J.held.length x.2.1 42 5 (J.held.flatMap (fun x => encR x.2)) :: ownS x.2.2.1 J.held.length x.2.2.2 3 1 (J.held.map genC) :: N) (rjrn j p J :: N) := Imp.fold (Ls := rjrnL j p J) x
set_option maxRecDepth 10000 in
theorem rnext_ro (j p : Nat) (J : Jrn) (hJ : J.rng) : RO G 25 [.pointer (some ⟨j, 0, none⟩)] (rjrn j p J) (.int .i64 J.next) := by
  refine RO.enterEx Tryz.func25 rfl (by decide) rfl Tryz.ntmps25 rfl (fun x A hu hA => ?_)
  have hB : ∀ {L}, A ∈ L → Ent L (cellsAt j 0 [.pointer (some ⟨p, 0, none⟩), .int .i64 J.ring, .int .i64 J.hd.turn, .int .i64 J.hd.first, .int .i64 J.hd.gen, .int .i64 J.hd.low, .slice x.1 J.held.length x.2.1, .slice x.2.2.1 J.held.length x.2.2.2]) := fun m => Ent.of hu hA m (Ent.whole (List.Mem.head _))
  obtain ⟨⟨r1, r2⟩, hlen, ⟨t1, t2⟩, ⟨f1, f2⟩, ⟨g1, g2⟩⟩ := hJ
  repeat (first | refine GD ?_ | refine NW fun _ => ?_)
  refine RD 11 11 (_) ?_
  refine WP 0 ?_
  refine WP 1 ?_
  refine WP 2 ?_
  refine VL 3 (.int .i64 J.hd.first) rfl rfl rfl rfl (.inl ⟨rfl, Ent.one (i := 3) (hB MM) rfl⟩) ?_
  refine WP 4 ?_
  refine WP 5 ?_
  refine WP 6 ?_
  refine VL 7 (.slice x.1 J.held.length x.2.1) rfl rfl rfl rfl (.inl ⟨rfl, Ent.one (i := 6) (hB MM) rfl⟩) ?_
  refine WP 8 ?_
  refine WP 9 ?_
  refine WP 10 ?_
  refine DN ?_
  repeat (first | refine GD ?_ | refine NW fun _ => ?_)
  exact ret1 rfl ⟨rfl, MM⟩
set_option maxHeartbeats 1000000 in
set_option maxRecDepth 10000 in
theorem rsave_ok (j p : Nat) (J : Jrn) (D : Dsk) (hJ : 0 ≤ J.hd.turn ∧ J.hd.turn ≤ 4611686018427387904) (hD : D.ok) (hl : 2 ≤ D.S.length) (hw : D.W.length < 10000) :
    Triple G 57 [.pointer (some ⟨j, 0, none⟩)] [rjrn j p J, rdsk p D] (fun v M => v = .tuple #[] ∧ M = [rjrn j p { J with hd := J.hd.up }, rdsk p (saveM D J.hd.up)]) := by
  refine Triple.enter Tryz.func57 rfl (by decide) rfl Tryz.ntmps57 rfl (fun F => ?_)
  refine WC.open P1 (fun x => ?_)
  unfold rjrnL
  dsimp only [List.cons_append, List.nil_append]
  have hu : J.hd.up = ⟨J.hd.turn + 1, J.hd.first, J.hd.gen, J.hd.low⟩ := rfl
  have hb := headS_len J.hd.up
  have hi : (0 ≤ (J.hd.turn + 1) % 2 ∧ (J.hd.turn + 1) % 2 < D.S.length) ∧ (headS J.hd.up).length = 64 := ⟨by omega, hb⟩
  have hws := rdwrite_ok p D ((J.hd.turn + 1) % 2) (headS J.hd.up) (by omega)
  repeat (first | refine GO ?_ | refine NW fun _ => ?_)
  refine RD 26 27 (_) ?_
  refine WP 0 ?_
  refine WP 1 ?_
  refine WP 2 ?_
  refine VV 3 ?_
  refine WP 4 ?_
  refine WP 5 ?_
  refine WP 6 ?_
  refine VV 7 ?_
  refine WP 8 ?_
  refine WP 9 ?_
  refine WP 10 ?_
  refine WP 11 ?_
  refine VV 12 ?_
  refine WP 13 ?_
  refine WP 14 ?_
  refine WP 15 ?_
  refine VV 16 ?_
  refine WP 17 ?_
  refine WP 18 ?_
  refine WP 19 ?_
  refine VV 20 ?_
  refine WP 21 ?_
  refine WP 22 ?_
  refine WP 23 ?_
  refine VV 24 ?_
  refine WH.only 25 rfl rfl (by kernel_rfl) rfl (OP.callRO rfl rfl (qheadBytes_ro J.hd.up) (fun _ _ => trivial) rfl rfl ⟨fun _ => II, ?_⟩)
  refine WH.only 26 rfl rfl (by kernel_rfl) rfl (OP.call (pre := [rdsk p D]) rfl rfl hws PS rfl rfl (fun v M hM => ?_))
  unfold RWrPost at hM
  rw [if_pos hi] at hM
  obtain ⟨rfl, rfl⟩ := hM
  refine ⟨(fun h => nomatch h), ?_⟩
  refine DN ?_
  repeat (first | refine GO ?_ | refine NW fun _ => ?_)
  refine WL.step rfl (OP.call (pre := [rdsk p (D.put ((J.hd.turn + 1) % 2).toNat (headS J.hd.up))]) rfl rfl (rdflush_ok p _ (Dsk.put_ok hD (by omega) hb) (by simp [Dsk.put]; omega)) PS rfl rfl ?_)
  rintro _ _ ⟨rfl, rfl⟩
  repeat (first | refine GO ?_ | refine NW fun _ => ?_)
  exact ret0n ⟨_, ⟨rfl, rfl⟩, Imp.trans II (rjrnFold j p { J with hd := J.hd.up } x)⟩
end Go.Proofs.YteednjcoapmkaaaGreatDoor
/- Contracts of functions of the given program, and plain laws on what they compute: parts of the proofs of laws. -/

namespace Go.Proofs.YteednjcoapmkaaaGreatDoor
open Go Go.GL

/-- the faults of an append -/
def appEr (J : Jrn) (c : Int) : List (ByteArray × Int) := if c = 6 then [(jrnT, J.next)] else [(jrnT, J.next), (recW, J.next)]
def AppJ (j p : Nat) (J : Jrn) (D : Dsk) (r : Rec) (v : Value) (M : List Assn) : Prop := match appendM J D r with
  | .ok (J', D') => v = .tuple #[.int .i64 J.next, .nilIface] ∧ M = [jrn j p J', dsk p D']
  | .error c => ∃ e E, IsEr (some (appEr J c, c)) e E ∧ v = .tuple #[.int .i64 0, e] ∧ M = E ++ [jrn j p J, dsk p D]
set_option maxHeartbeats 8000000 in
set_option maxRecDepth 10000 in
theorem jappend_ok (j p : Nat) (J : Jrn) (D : Dsk) (r : Rec) (hJ : J.rng) (hl : 2 + J.ring ≤ D.S.length) (hw : D.W.length < 10000) (hsz : r.2.2.2.1.size < 1000000) :
    Triple G 15 [.pointer (some ⟨j, 0, none⟩), .agg (encR r).toArray] [jrn j p J, dsk p D] (AppJ j p J D r) := by
  refine Triple.enter Tryz.func15 rfl (by decide) rfl Tryz.ntmps15 rfl (fun F => ?_)
  have hnext := jnext_ro j p J hJ
  have hroom := jroom_ro j p J hJ
  have hdef : appendM J D r = if J.held.length = J.ring then .error 6
    else if RightR (setSeq r J.next) ∧ (0 ≤ J.hd.gen ∧ J.hd.gen ≤ widest) then
    .ok ({ J with held := J.held ++ [(J.hd.gen, setSeq r J.next)] }, D.put (posM J.ring J.next) (sectorM (bodyM J.hd.gen (setSeq r J.next))))
    else .error 1 := rfl
  have hnx : J.next = J.hd.first + J.held.length := rfl
  obtain ⟨⟨r1, r2⟩, hlen, ⟨t1, t2⟩, ⟨f1, f2⟩, ⟨g1, g2⟩⟩ := hJ
  have hn0 : 0 ≤ J.next ∧ J.next ≤ 9000000000000000000 := by omega
  have hat := jat_ro j p J ⟨r1, r2⟩ J.next (by omega)
  have hpb := pos_bd r1 J.next
  obtain ⟨seq, kind, block, data, num⟩ := r
  have hss : setSeq (seq, kind, block, data, num) J.next = (J.next, kind, block, data, num) := rfl
  rw [hss] at hdef
  dsimp only at hsz
  have henc := encode_ok J.hd.gen (J.next, kind, block, data, num) hsz
  unfold EncPost at henc
  rw [show encR (seq, kind, block, data, num) = [.int .i64 seq, .int .i64 kind, .int .i64 block, .string data, .int .i64 num] from rfl]
  rw [show encR (J.next, kind, block, data, num) = [.int .i64 J.next, .int .i64 kind, .int .i64 block, .string data, .int .i64 num] from rfl] at henc
  have hwr := dwrite_ok p D (posM J.ring J.next) (sectorM (bodyM J.hd.gen (J.next, kind, block, data, num)))
  have hEJ : ∀ {L : List Assn} {x}, Imp L (jrnL j p J x) → Ent L (jrn j p J) := fun i => Ent.exI _ i
  repeat (first | refine GD ?_ | refine NW fun _ => ?_)
  refine WL.step rfl (OP.callRO rfl rfl hnext (Ent.at (up_jrn j p J) MM) rfl rfl ?_)
  repeat (first | refine GD ?_ | refine NW fun _ => ?_)
  refine WL.step rfl (OP.callRO rfl rfl hroom (Ent.at (up_jrn j p J) MM) rfl rfl ?_)
  by_cases hfull : J.held.length = J.ring
  · rw [if_pos hfull] at hdef
    rw [hfull, Int.sub_self]
    repeat (first | refine GD ?_ | refine NW fun _ => ?_)
    refine WL.step rfl (OP.call (pre := []) rfl rfl (wrap_ok jrnT J.next 6 (by decide)) PS rfl rfl ?_)
    intro v M hF
    obtain ⟨M', h1, h2⟩ := hF.isEr
    repeat (first | refine GD ?_ | refine NW fun _ => ?_)
    refine ret2 rfl rfl ⟨M' ++ [jrn j p J, dsk p D], ?_, ?_⟩
    · unfold AppJ
      rw [hdef]
      exact ⟨v, M', h1, rfl, rfl⟩
    · rw [List.append_assoc]
      exact (Imp.app h2 _).trans (Imp.appL II _)
  rw [if_neg hfull] at hdef
  have hne : ¬ (J.ring : Int) - J.held.length = 0 := by omega
  repeat (first | refine GD ?_ | refine NW fun _ => ?_)
  refine WC.open P1 (fun x => ?_)
  unfold jrnL
  dsimp only [List.cons_append, List.nil_append]
  by_cases hR : RightR (J.next, kind, block, data, num) ∧ (0 ≤ J.hd.gen ∧ J.hd.gen ≤ widest)
  rotate_left
  · rw [if_neg hR] at hdef
    refine RD 12 12 (_) ?_
    refine WP 0 ?_
    refine WP 1 ?_
    refine WP 2 ?_
    refine WP 3 ?_
    refine VV 4 ?_
    refine VV 5 ?_
    refine WH.only 6 rfl rfl (by kernel_rfl) rfl (OP.callRT rfl rfl henc (fun _ _ => trivial) rfl rfl (fun v E hE' => ?_))
    rw [if_neg hR] at hE'
    obtain ⟨e, rfl, hF⟩ := hE'
    obtain ⟨b, rfl, rfl⟩ := hF
    refine ⟨fun _ => II, ?_⟩
    refine WP 7 ?_
    refine WP 8 ?_
    refine WP 9 ?_
    refine WP 10 ?_
    refine WP 11 ?_
    refine DN ?_
    repeat (first | refine GD ?_ | refine NW fun _ => ?_)
    refine WL.imp Imp.chain1 ?_
    refine WL.step rfl (OP.call (pre := [chainR [(_, recW, J.next)] 1]) rfl rfl (wrapC_ok jrnT J.next [(_, recW, J.next)] 1 (fun h => nomatch h.1)) PS rfl rfl ?_)
    rintro v M ⟨ch, h1, rfl, rfl⟩
    repeat (first | refine GD ?_ | refine NW fun _ => ?_)
    refine ret2 rfl rfl ⟨[chainR ch 1] ++ [jrn j p J, dsk p D], ?_, ?_⟩
    · unfold AppJ
      rw [hdef]
      exact ⟨_, _, ⟨ch, h1, rfl, rfl⟩, rfl, rfl⟩
    · exact Imp.trans II ((jrnFold j p J x (N := [chainR ch 1, dsk p D, F])).trans II)
  rw [if_pos hR] at hdef
  have hsl := sectorM_len (bodyM_len (gen := J.hd.gen) hR.1)
  generalize hS : sectorM (bodyM J.hd.gen (J.next, kind, block, data, num)) = S at *
  refine RD 12 12 (_) ?_
  refine WP 0 ?_
  refine WP 1 ?_
  refine WP 2 ?_
  refine WP 3 ?_
  refine VV 4 ?_
  refine VV 5 ?_
  refine WH.only 6 rfl rfl (by kernel_rfl) rfl (OP.callRT rfl rfl henc (fun _ _ => trivial) rfl rfl (fun v E hE' => ?_))
  rw [if_pos hR] at hE'
  obtain ⟨v1, rfl, a6, cap6, rfl, rfl⟩ := hE'
  refine ⟨fun _ => II, ?_⟩
  refine WP 7 ?_
  refine WP 8 ?_
  refine WP 9 ?_
  refine WP 10 ?_
  refine WP 11 ?_
  refine DN ?_
  repeat (first | refine GD ?_ | refine NW fun _ => ?_)
  refine RD 9 10 (_) ?_
  refine WP 0 ?_
  refine WP 1 ?_
  refine WP 2 ?_
  refine VV 3 ?_
  refine WP 4 ?_
  refine WP 5 ?_
  refine VV 6 ?_
  refine WP 8 ?_
  refine WH.only 7 rfl rfl (by kernel_rfl) rfl (OP.callRO rfl rfl (hat) (hEJ (x := x) (by unfold jrnL; exact II)) rfl rfl ⟨fun _ => II, ?_⟩)
  refine WH.only 9 rfl rfl (by kernel_rfl) rfl (OP.call (pre := [dsk p D, ownS a6 S.length cap6 5 1 (S.map byteV)]) rfl rfl (hwr a6 cap6 (by omega) (by omega)) PS rfl rfl (fun v M hM => ?_))
  unfold WrPost at hM
  rw [if_pos ⟨by omega, hsl⟩, Int.toNat_natCast] at hM
  obtain ⟨rfl, rfl⟩ := hM
  refine ⟨(fun h => nomatch h), ?_⟩
  refine DN ?_
  repeat (first | refine GD ?_ | refine NW fun _ => ?_)
  refine RD 13 17 (_) ?_
  refine WP 0 ?_
  refine WP 1 ?_
  refine WP 2 ?_
  refine WP 3 ?_
  refine VV 4 ?_
  refine WP 5 ?_
  refine WP 6 ?_
  refine WP 7 ?_
  refine WP 8 ?_
  refine VV 9 ?_
  refine VV 10 ?_
  refine WH.only 11 rfl rfl (by kernel_rfl) rfl (OP.buildT rfl rfl rfl rfl ⟨fun _ => II, ?_⟩)
  refine WH.only 12 rfl rfl (by kernel_rfl) rfl (OP.sliceLit (c := heldC (J.hd.gen, J.next, kind, block, data, num)) rfl rfl rfl rfl rfl rfl rfl rfl (fun b2 => ⟨fun _ => II, ?_⟩))
  refine WH.only 13 rfl rfl (by kernel_rfl) rfl (OP.append rfl rfl rfl rfl rfl rfl rfl rfl rfl P1 (Ent.own MM) rfl (by omega) (by omega) rfl rfl (fun a' cap' => ⟨(fun h => nomatch h), ?_⟩))
  refine WP 14 ?_
  refine WP 15 ?_
  refine WH.only 16 rfl rfl (by kernel_rfl) rfl (OP.store rfl rfl rfl rfl rfl rfl rfl UP rfl ⟨(fun h => nomatch h), ?_⟩)
  refine DN ?_
  repeat (first | refine GD ?_ | refine NW fun _ => ?_)
  refine ret2 rfl rfl ⟨[jrn j p { J with held := J.held ++ [(J.hd.gen, J.next, kind, block, data, num)] }, dsk p (D.put (posM J.ring J.next) S)], ?_, ?_⟩
  · unfold AppJ
    rw [hdef]
    exact ⟨rfl, rfl⟩
  · refine Imp.trans ?_ (jrnFold j p { J with held := J.held ++ [(J.hd.gen, J.next, kind, block, data, num)] } (a', cap'))
    dsimp only
    rw [List.length_append, List.flatMap_append, List.flatMap_cons, List.flatMap_nil, List.append_nil]
    exact II
/-! a part of what is held is copied -/
set_option maxRecDepth 10000 in
theorem hclone_rt (a : Addr) (n c : Nat) (l : List Held) (hn : n = l.length) (hs : n < 1000000) : RT G 63 [.slice (some a) n c] (readS (some a) n 6 (l.flatMap heldC))
    (fun v E => ∃ a' cap', v = .slice a' l.length cap' ∧ E = [ownS a' l.length cap' 120 6 (l.flatMap heldC)]) := by
  refine RT.enter Tryz.func63 rfl (by decide) rfl Tryz.ntmps63 rfl (fun A hu hA => ?_)
  have hE : ∀ {L}, A ∈ L → Ent L (readS (some a) n 6 (l.flatMap heldC)) := fun m => Ent.mem m hu hA
  have h1 : ∀ l : List Held, allOne (l.flatMap heldC) = true := fun l => by
    induction l with
    | nil => rfl
    | cons x r ih => rw [List.flatMap_cons]; simpa [heldC, encR, allOne, one] using ih
  repeat (first | refine GO ?_ | refine NW fun _ => ?_)
  refine WL.step rfl (OP.lit0 (size := 6) rfl rfl rfl rfl rfl rfl (fun b => ?_))
  repeat (first | refine GO ?_ | refine NW fun _ => ?_)
  refine WL.step rfl (OP.append rfl rfl rfl rfl rfl rfl rfl rfl rfl P1 (hE MM) (h1 _) (by omega) (by omega) rfl rfl (fun a2' cap2 => ?_))
  rw [Nat.zero_add, List.nil_append]
  repeat (first | refine GO ?_ | refine NW fun _ => ?_)
  exact ret1 rfl ⟨[ownS a2' n cap2 120 6 (l.flatMap heldC)], ⟨a2', cap2, by rw [hn], by rw [hn]⟩, II⟩
def TrimJ (j p : Nat) (J : Jrn) (D : Dsk) (k : Int) (v : Value) (M : List Assn) : Prop := match trimM J D k with
  | .ok (J', D') => v = .nilIface ∧ M = [jrn j p J', dsk p D']
  | .error c => ∃ E, IsEr (some ([(jrnT, k)], c)) v E ∧ M = E ++ [jrn j p J, dsk p D]
set_option maxHeartbeats 8000000 in
set_option maxRecDepth 10000 in
theorem jtrim_ok (j p : Nat) (J : Jrn) (D : Dsk) (k : Int) (hJ : J.rng) (hD : D.ok) (hl : 2 + J.ring ≤ D.S.length) (hw : D.W.length < 10000) :
    Triple G 19 [.pointer (some ⟨j, 0, none⟩), .int .i64 k] [jrn j p J, dsk p D] (TrimJ j p J D k) := by
  refine Triple.enter Tryz.func19 rfl (by decide) rfl Tryz.ntmps19 rfl (fun F => ?_)
  obtain ⟨⟨r1, r2⟩, hlen, ⟨t1, t2⟩, ⟨f1, f2⟩, ⟨g1, g2⟩⟩ := hJ
  have hdef : trimM J D k = if k < 0 ∨ (J.held.length : Int) < k then .error 1
    else if k = 0 then .ok (J, D)
    else .ok ({ J with hd := { J.hd with turn := J.hd.turn + 1, first := J.hd.first + k, low := (J.held.getD (k.toNat - 1) (0, rec0)).1 }, held := J.held.drop k.toNat },
      saveM D.flush { J.hd with turn := J.hd.turn + 1, first := J.hd.first + k, low := (J.held.getD (k.toNat - 1) (0, rec0)).1 }) := rfl
  refine WC.open P1 (fun x => ?_)
  unfold jrnL
  dsimp only [List.cons_append, List.nil_append]
  by_cases h1 : k < 0
  · have hop : trimM J D k = .error 1 := by rw [hdef, if_pos (.inl h1)]
    repeat (first | refine GD ?_ | refine NW fun _ => ?_)
    refine WL.step rfl (OP.call (pre := []) rfl rfl (wrap_ok jrnT k 1 (by decide)) PS rfl rfl ?_)
    intro v M hF
    obtain ⟨M', h1, h2⟩ := hF.isEr
    repeat (first | refine GD ?_ | refine NW fun _ => ?_)
    refine ret1 rfl ⟨M' ++ [jrn j p J, dsk p D], ?_, ?_⟩
    · unfold TrimJ
      rw [hop]
      exact ⟨M', h1, rfl⟩
    · rw [List.append_assoc]
      refine (Imp.app h2 _).trans (Imp.appL ?_ _)
      exact Imp.trans II (jrnFold j p J x)
  by_cases h2 : (J.held.length : Int) < k
  · have hop : trimM J D k = .error 1 := by rw [hdef, if_pos (.inr h2)]
    repeat (first | refine GD ?_ | refine NW fun _ => ?_)
    refine WL.step rfl (OP.call (pre := []) rfl rfl (wrap_ok jrnT k 1 (by decide)) PS rfl rfl ?_)
    intro v M hF
    obtain ⟨M', h1, h2⟩ := hF.isEr
    repeat (first | refine GD ?_ | refine NW fun _ => ?_)
    refine ret1 rfl ⟨M' ++ [jrn j p J, dsk p D], ?_, ?_⟩
    · unfold TrimJ
      rw [hop]
      exact ⟨M', h1, rfl⟩
    · rw [List.append_assoc]
      refine (Imp.app h2 _).trans (Imp.appL ?_ _)
      exact Imp.trans II (jrnFold j p J x)
  rw [if_neg (by omega)] at hdef
  by_cases h3 : k = 0
  · subst h3
    rw [if_pos rfl] at hdef
    repeat (first | refine GD ?_ | refine NW fun _ => ?_)
    refine ret1 rfl ⟨[jrn j p J, dsk p D], ?_, Imp.trans II (jrnFold j p J x)⟩
    unfold TrimJ
    rw [hdef]
    exact ⟨rfl, rfl⟩
  rw [if_neg h3] at hdef
  obtain ⟨n, rfl⟩ : ∃ n : Nat, k = n := ⟨k.toNat, by omega⟩
  rw [Int.toNat_natCast] at hdef
  have hn1 : n - 1 < J.held.length := by omega
  rw [List.getD_eq_getElem?_getD, List.getElem?_eq_getElem hn1] at hdef
  dsimp only [Option.getD_some] at hdef
  refine WC.fact (Ent.some (Ent.own (a := x.1) (n := J.held.length) (cap := x.2) (T := 120) (size := 6) (cs := J.held.flatMap heldC) MM) (by omega)) ?_
  rintro ⟨b, off, hx⟩
  refine WC.fact (Ent.ownLe (a := x.1) (n := J.held.length) (cap := x.2) (T := 120) (size := 6) (cs := J.held.flatMap heldC) MM) (fun hcap => ?_)
  rw [hx]
  repeat (first | refine GD ?_ | refine NW fun _ => ?_)
  refine WL.step rfl (OP.call (pre := [dsk p D]) rfl rfl (dflush_ok p D hD (by omega)) PS rfl rfl ?_)
  rintro _ _ ⟨rfl, rfl⟩
  repeat (first | refine GD ?_ | refine NW fun _ => ?_)
  rw [show ((n : Int) - 1).toNat = n - 1 by omega]
  refine WL.step rfl (OP.load1 (v := .int .i64 (J.held[n - 1]).1) rfl rfl rfl rfl (Ent.elF heldC_len (Ent.own (T := 120) MM) hn1 rfl rfl) rfl rfl ?_)
  generalize (J.held[n - 1]).1 = lw at *
  repeat (first | refine GD ?_ | refine NW fun _ => ?_)
  obtain ⟨ca, hca⟩ : ∃ ca, cutA (some ⟨b, off, none⟩) x.2 n 6 = some ca := by unfold cutA; split <;> exact ⟨_, rfl⟩
  rw [hca]
  refine WL.step rfl (OP.callRT rfl rfl (hclone_rt ca (J.held.length - n) (x.2 - n) (J.held.drop n) (by simp) (by omega)) (fun h s => by
    have := readS_cut (Ent.own (a := some ⟨b, off, none⟩) (n := J.held.length) (cap := x.2) (T := 120) (size := 6) (cs := J.held.flatMap heldC) MM h s) (show n ≤ J.held.length by omega) hcap
    rw [hca, flat_drop heldC_len] at this
    exact this) rfl rfl ?_)
  rintro _ _ ⟨a3, cap3, rfl, rfl⟩
  repeat (first | refine GD ?_ | refine NW fun _ => ?_)
  refine WL.imp (M := [jrn j p ⟨J.ring, ⟨J.hd.turn, J.hd.first + n, J.hd.gen, lw⟩, J.held.drop n⟩, dsk p D.flush, F]) (Imp.trans II (jrnFold j p ⟨J.ring, ⟨J.hd.turn, J.hd.first + n, J.hd.gen, lw⟩, J.held.drop n⟩ (a3, cap3))) ?_
  refine WL.step rfl (OP.call (pre := [jrn j p ⟨J.ring, ⟨J.hd.turn, J.hd.first + n, J.hd.gen, lw⟩, J.held.drop n⟩, dsk p D.flush]) rfl rfl (jsave_ok j p ⟨J.ring, ⟨J.hd.turn, J.hd.first + n, J.hd.gen, lw⟩, J.held.drop n⟩ D.flush ⟨t1, t2⟩ (Dsk.settle_ok hD _) (by rw [show D.flush.S.length = D.S.length from Dsk.settle_len D _]; omega) (by show (0 : Nat) < 10000; decide)) PS rfl rfl ?_)
  rintro _ _ ⟨rfl, rfl⟩
  repeat (first | refine GD ?_ | refine NW fun _ => ?_)
  refine ret1 rfl ⟨_, ?_, Imp.refl _⟩
  unfold TrimJ
  rw [hdef]
  exact ⟨rfl, rfl⟩
end Go.Proofs.YteednjcoapmkaaaGreatDoor
/- Contracts of functions of the given program, and plain laws on what they compute: parts of the proofs of laws. -/

namespace Go.Proofs.YteednjcoapmkaaaGreatDoor
open Go Go.GL

def RAppJ (j p : Nat) (J : Jrn) (D : Dsk) (r : Rec) (v : Value) (M : List Assn) : Prop := match appendM J D r with
  | .ok (J', D') => v = .tuple #[.int .i64 J.next, .int .i64 0] ∧ M = [rjrn j p J', rdsk p D']
  | .error c => v = .tuple #[.int .i64 0, .int .i64 c] ∧ M = [rjrn j p J, rdsk p D]
set_option maxHeartbeats 8000000 in
set_option maxRecDepth 10000 in
theorem rappend_ok (j p : Nat) (J : Jrn) (D : Dsk) (r : Rec) (hJ : J.rng) (hl : 2 + J.ring ≤ D.S.length) (hw : D.W.length < 10000) (hsz : r.2.2.2.1.size < 1000000) :
    Triple G 16 [.pointer (some ⟨j, 0, none⟩), .agg (encR r).toArray] [rjrn j p J, rdsk p D] (RAppJ j p J D r) := by
  refine Triple.enter Tryz.func16 rfl (by decide) rfl Tryz.ntmps16 rfl (fun F => ?_)
  have hnext := rnext_ro j p J hJ
  have hdef : appendM J D r = if J.held.length = J.ring then .error 6
    else if RightR (setSeq r J.next) ∧ (0 ≤ J.hd.gen ∧ J.hd.gen ≤ widest) then
    .ok ({ J with held := J.held ++ [(J.hd.gen, setSeq r J.next)] }, D.put (posM J.ring J.next) (sectorM (bodyM J.hd.gen (setSeq r J.next))))
    else .error 1 := rfl
  have hnx : J.next = J.hd.first + J.held.length := rfl
  obtain ⟨⟨r1, r2⟩, hlen, ⟨t1, t2⟩, ⟨f1, f2⟩, ⟨g1, g2⟩⟩ := hJ
  have hn0 : 0 ≤ J.next ∧ J.next ≤ 9000000000000000000 := by omega
  have hpb := pos_bd r1 J.next
  have hm := Int.emod_nonneg J.next (b := (J.ring : Int)) (by omega)
  have hm2 := Int.emod_lt_of_pos J.next (b := (J.ring : Int)) (by omega)
  have hpe : 2 + J.next % J.ring = ((posM J.ring J.next : Nat) : Int) := by unfold posM; omega
  obtain ⟨seq, kind, block, data, num⟩ := r
  have hss : setSeq (seq, kind, block, data, num) J.next = (J.next, kind, block, data, num) := rfl
  rw [hss] at hdef
  dsimp only at hsz
  have henc := qencode_ro J.hd.gen (J.next, kind, block, data, num) hsz
  unfold EncQ at henc
  rw [show encR (seq, kind, block, data, num) = [.int .i64 seq, .int .i64 kind, .int .i64 block, .string data, .int .i64 num] from rfl]
  rw [show encR (J.next, kind, block, data, num) = [.int .i64 J.next, .int .i64 kind, .int .i64 block, .string data, .int .i64 num] from rfl] at henc
  have hwr := rdwrite_ok p D (posM J.ring J.next) (sectorM (bodyM J.hd.gen (J.next, kind, block, data, num))) (by omega)
  have hEJ : ∀ {L : List Assn} {x}, Imp L (rjrnL j p J x) → Ent L (rjrn j p J) := fun i => Ent.exI _ i
  refine WC.open P1 (fun x => ?_)
  unfold rjrnL
  dsimp only [List.cons_append, List.nil_append]
  repeat (first | refine GD ?_ | refine NW fun _ => ?_)
  by_cases hfull : J.held.length = J.ring
  · rw [if_pos hfull] at hdef
    refine RD 10 10 (_) ?_
    refine WP 0 ?_
    refine WP 1 ?_
    refine WP 2 ?_
    refine VV 3 ?_
    refine WP 4 ?_
    refine WP 5 ?_
    refine WP 6 ?_
    refine WP 7 ?_
    refine VV 8 ?_
    refine WP 9 ?_
    rw [decide_eq_true (show (J.held.length : Int) = J.ring by omega)]
    refine DN ?_
    repeat (first | refine GD ?_ | refine NW fun _ => ?_)
    refine ret2 rfl rfl ⟨[rjrn j p J, rdsk p D], ?_, Imp.trans II (rjrnFold j p J x)⟩
    unfold RAppJ
    rw [hdef]
    exact ⟨rfl, rfl⟩
  rw [if_neg hfull] at hdef
  refine RD 10 10 (_) ?_
  refine WP 0 ?_
  refine WP 1 ?_
  refine WP 2 ?_
  refine VV 3 ?_
  refine WP 4 ?_
  refine WP 5 ?_
  refine WP 6 ?_
  refine WP 7 ?_
  refine VV 8 ?_
  refine WP 9 ?_
  rw [decide_eq_false (show ¬ (J.held.length : Int) = J.ring by omega)]
  refine DN ?_
  repeat (first | refine GD ?_ | refine NW fun _ => ?_)
  refine WL.step rfl (OP.callRO rfl rfl hnext (hEJ (x := x) (by unfold rjrnL; exact II)) rfl rfl ?_)
  repeat (first | refine GD ?_ | refine NW fun _ => ?_)
  by_cases hR : RightR (J.next, kind, block, data, num) ∧ (0 ≤ J.hd.gen ∧ J.hd.gen ≤ widest)
  rotate_left
  · rw [if_neg hR] at hdef henc
    refine RD 11 11 (_) ?_
    refine WP 0 ?_
    refine WP 1 ?_
    refine WP 2 ?_
    refine VV 3 ?_
    refine VV 4 ?_
    refine WH.only 5 rfl rfl (by kernel_rfl) rfl (OP.callRO rfl rfl (henc) (fun _ _ => trivial) rfl rfl ⟨fun _ => II, ?_⟩)
    refine WP 6 ?_
    refine WP 7 ?_
    refine WP 8 ?_
    refine WP 9 ?_
    refine WP 10 ?_
    refine DN ?_
    repeat (first | refine GD ?_ | refine NW fun _ => ?_)
    refine ret2 rfl rfl ⟨[rjrn j p J, rdsk p D], ?_, Imp.trans II (rjrnFold j p J x)⟩
    unfold RAppJ
    rw [hdef]
    exact ⟨rfl, rfl⟩
  rw [if_pos hR] at hdef henc
  have hsl := sectorM_len (bodyM_len (gen := J.hd.gen) hR.1)
  generalize hS : sectorM (bodyM J.hd.gen (J.next, kind, block, data, num)) = S at *
  refine RD 11 11 (_) ?_
  refine WP 0 ?_
  refine WP 1 ?_
  refine WP 2 ?_
  refine VV 3 ?_
  refine VV 4 ?_
  refine WH.only 5 rfl rfl (by kernel_rfl) rfl (OP.callRO rfl rfl (henc) (fun _ _ => trivial) rfl rfl ⟨fun _ => II, ?_⟩)
  refine WP 6 ?_
  refine WP 7 ?_
  refine WP 8 ?_
  refine WP 9 ?_
  refine WP 10 ?_
  refine DN ?_
  repeat (first | refine GD ?_ | refine NW fun _ => ?_)
  refine RD 13 14 (_) ?_
  refine WP 0 ?_
  refine WP 1 ?_
  refine WP 2 ?_
  refine VV 3 ?_
  refine WP 4 ?_
  refine VV 5 ?_
  refine WP 6 ?_
  refine WP 7 ?_
  refine WP 8 ?_
  refine VV 9 ?_
  refine WP 10 ?_
  refine WP 11 ?_
  rw [hpe]
  refine WP 12 ?_
  refine WH.only 13 rfl rfl (by kernel_rfl) rfl (OP.call (pre := [rdsk p D]) rfl rfl hwr PS rfl rfl (fun v M hM => ?_))
  unfold RWrPost at hM
  rw [if_pos ⟨by omega, hsl⟩, Int.toNat_natCast] at hM
  obtain ⟨rfl, rfl⟩ := hM
  refine ⟨(fun h => nomatch h), ?_⟩
  refine DN ?_
  repeat (first | refine GD ?_ | refine NW fun _ => ?_)
  refine RD 7 11 (_) ?_
  refine WP 0 ?_
  refine WP 1 ?_
  refine WP 2 ?_
  refine WP 3 ?_
  refine VV 4 ?_
  refine VV 5 ?_
  refine WH.only 6 rfl rfl (by kernel_rfl) rfl (OP.sliceLit (c := encR (J.next, kind, block, data, num)) rfl rfl rfl rfl rfl rfl rfl rfl (fun b2 => ⟨fun _ => II, ?_⟩))
  refine WH.only 7 rfl rfl (by kernel_rfl) rfl (OP.append rfl rfl rfl rfl rfl rfl rfl rfl rfl P1 (Ent.own MM) rfl (by omega) (by omega) rfl rfl (fun a' cap' => ⟨(fun h => nomatch h), ?_⟩))
  refine WP 8 ?_
  refine WP 9 ?_
  refine WH.only 10 rfl rfl (by kernel_rfl) rfl (OP.store rfl rfl rfl rfl rfl rfl rfl UP rfl ⟨(fun h => nomatch h), ?_⟩)
  refine DN ?_
  repeat (first | refine GD ?_ | refine NW fun _ => ?_)
  refine RD 10 14 (_) ?_
  refine WP 0 ?_
  refine WP 1 ?_
  refine WP 2 ?_
  refine WP 3 ?_
  refine VV 4 ?_
  refine WP 5 ?_
  refine WP 6 ?_
  refine WP 7 ?_
  refine VV 8 ?_
  refine WH.only 9 rfl rfl (by kernel_rfl) rfl (OP.sliceLit (c := [.int .i64 J.hd.gen]) rfl rfl rfl rfl rfl rfl rfl rfl (fun b3 => ⟨fun _ => II, ?_⟩))
  refine WH.only 10 rfl rfl (by kernel_rfl) rfl (OP.append rfl rfl rfl rfl rfl rfl rfl rfl rfl P1 (Ent.own MM) rfl (by omega) (by omega) rfl rfl (fun a3 cap3 => ⟨(fun h => nomatch h), ?_⟩))
  refine WP 11 ?_
  refine WP 12 ?_
  refine WH.only 13 rfl rfl (by kernel_rfl) rfl (OP.store rfl rfl rfl rfl rfl rfl rfl UP rfl ⟨(fun h => nomatch h), ?_⟩)
  refine DN ?_
  repeat (first | refine GD ?_ | refine NW fun _ => ?_)
  refine ret2 rfl rfl ⟨[rjrn j p { J with held := J.held ++ [(J.hd.gen, J.next, kind, block, data, num)] }, rdsk p (D.put (posM J.ring J.next) S)], ?_, ?_⟩
  · unfold RAppJ
    rw [hdef]
    exact ⟨rfl, rfl⟩
  · refine Imp.trans ?_ (rjrnFold j p { J with held := J.held ++ [(J.hd.gen, J.next, kind, block, data, num)] } (a', cap', a3, cap3))
    dsimp only
    rw [List.length_append, List.flatMap_append, List.flatMap_cons, List.flatMap_nil, List.append_nil, List.map_append]
    exact II
end Go.Proofs.YteednjcoapmkaaaGreatDoor
/- Contracts of functions of the given program, and plain laws on what they compute: parts of the proofs of laws. -/

namespace Go.Proofs.YteednjcoapmkaaaGreatDoor
open Go Go.GL

/-- the front of what a slice owns is cut off -/
theorem Imp.ownDrop {L : List Assn} {b off n cap : Nat} {T : TypeId} {size : Nat} {cs : List Value} {k : Nat} (hk : k ≤ n) :
    Imp (ownS (some ⟨b, off, none⟩) n cap T size cs :: L) (ownS (cutA (some ⟨b, off, none⟩) cap k size) (n - k) (cap - k) T size (cs.drop (k * size)) :: L) := fun _ s => stars_head_mono (fun h ⟨hl, hle, ho⟩ => by
  rcases ho with ⟨e, _⟩ | ⟨b', pre, post, e, hc, hb⟩
  · cases e
  · have hkl : k * size ≤ cs.length := by rw [hl]; exact Nat.mul_le_mul_right _ hk
    have hdl : (cs.drop (k * size)).length = (n - k) * size := by rw [List.length_drop, hl, Nat.sub_mul]
    refine ⟨hdl, by omega, .inr ?_⟩
    obtain ⟨hbb, hoff⟩ : b = b' ∧ off = pre.length := by
      simp only [Option.some.injEq, Addr.mk.injEq] at e; exact ⟨e.1, e.2.1⟩
    subst hbb hoff
    by_cases hck : cap = k
    · have hn : n = k := by omega
      subst hn hck
      have hd : cs.drop (cap * size) = [] := List.drop_eq_nil_of_le (by omega)
      rw [hd]
      exact ⟨b, pre, cs ++ post, by unfold cutA; rw [if_pos rfl], by simp, by simpa using hb⟩
    · refine ⟨b, pre ++ cs.take (k * size), post, ?_, ?_, ?_⟩
      · unfold cutA; rw [if_neg hck]
        simp only [Option.map_some, Addr.add, List.length_append, List.length_take, Nat.min_eq_left hkl]
        split
        · rename_i h0; rw [h0]; rfl
        · rfl
      · rw [Nat.sub_mul, hdl, Nat.sub_mul]
        have : n * size ≤ cap * size := Nat.mul_le_mul_right _ hle
        have h2 : k * size ≤ n * size := Nat.mul_le_mul_right _ hk
        omega
      · rw [List.append_assoc pre, List.take_append_drop]; exact hb) s
def RTrimJ (j p : Nat) (J : Jrn) (D : Dsk) (k : Int) (v : Value) (M : List Assn) : Prop := match trimM J D k with
  | .ok (J', D') => v = .int .i64 0 ∧ M = [rjrn j p J', rdsk p D']
  | .error c => v = .int .i64 c ∧ M = [rjrn j p J, rdsk p D]
set_option maxHeartbeats 8000000 in
set_option maxRecDepth 10000 in
theorem rtrim_ok (j p : Nat) (J : Jrn) (D : Dsk) (k : Int) (hJ : J.rng) (hD : D.ok) (hl : 2 + J.ring ≤ D.S.length) (hw : D.W.length < 10000) :
    Triple G 20 [.pointer (some ⟨j, 0, none⟩), .int .i64 k] [rjrn j p J, rdsk p D] (RTrimJ j p J D k) := by
  refine Triple.enter Tryz.func20 rfl (by decide) rfl Tryz.ntmps20 rfl (fun F => ?_)
  obtain ⟨⟨r1, r2⟩, hlen, ⟨t1, t2⟩, ⟨f1, f2⟩, ⟨g1, g2⟩⟩ := hJ
  have hdef : trimM J D k = if k < 0 ∨ (J.held.length : Int) < k then .error 1
    else if k = 0 then .ok (J, D)
    else .ok ({ J with hd := { J.hd with turn := J.hd.turn + 1, first := J.hd.first + k, low := (J.held.getD (k.toNat - 1) (0, rec0)).1 }, held := J.held.drop k.toNat },
      saveM D.flush { J.hd with turn := J.hd.turn + 1, first := J.hd.first + k, low := (J.held.getD (k.toNat - 1) (0, rec0)).1 }) := rfl
  refine WC.open P1 (fun x => ?_)
  unfold rjrnL
  dsimp only [List.cons_append, List.nil_append]
  by_cases h1 : k < 0
  · have hop : trimM J D k = .error 1 := by rw [hdef, if_pos (.inl h1)]
    repeat (first | refine GD ?_ | refine NW fun _ => ?_)
    refine ret1 rfl ⟨[rjrn j p J, rdsk p D], ?_, Imp.trans II (rjrnFold j p J x)⟩
    unfold RTrimJ
    rw [hop]
    exact ⟨rfl, rfl⟩
  by_cases h2 : (J.held.length : Int) < k
  · have hop : trimM J D k = .error 1 := by rw [hdef, if_pos (.inr h2)]
    repeat (first | refine GD ?_ | refine NW fun _ => ?_)
    refine ret1 rfl ⟨[rjrn j p J, rdsk p D], ?_, Imp.trans II (rjrnFold j p J x)⟩
    unfold RTrimJ
    rw [hop]
    exact ⟨rfl, rfl⟩
  rw [if_neg (by omega)] at hdef
  by_cases h3 : k = 0
  · subst h3
    rw [if_pos rfl] at hdef
    have hop := hdef
    repeat (first | refine GD ?_ | refine NW fun _ => ?_)
    refine ret1 rfl ⟨[rjrn j p J, rdsk p D], ?_, Imp.trans II (rjrnFold j p J x)⟩
    unfold RTrimJ
    rw [hop]
    exact ⟨rfl, rfl⟩
  rw [if_neg h3] at hdef
  obtain ⟨n, rfl⟩ : ∃ n : Nat, k = n := ⟨k.toNat, by omega⟩
  rw [Int.toNat_natCast] at hdef
  have hn1 : n - 1 < J.held.length := by omega
  rw [List.getD_eq_getElem?_getD, List.getElem?_eq_getElem hn1] at hdef
  dsimp only [Option.getD_some] at hdef
  refine WC.fact (Ent.some (Ent.own (a := x.1) (n := J.held.length) (cap := x.2.1) (T := 42) (size := 5) (cs := J.held.flatMap (fun x => encR x.2)) MM) (by omega)) ?_
  rintro ⟨b, off, hx⟩
  refine WC.fact (Ent.ownLe (a := x.1) (n := J.held.length) (cap := x.2.1) (T := 42) (size := 5) (cs := J.held.flatMap (fun x => encR x.2)) MM) (fun hcap => ?_)
  refine WC.fact (Ent.some (Ent.own (a := x.2.2.1) (n := J.held.length) (cap := x.2.2.2) (T := 3) (size := 1) (cs := J.held.map genC) MM) (by omega)) ?_
  rintro ⟨bg, offg, hxg⟩
  refine WC.fact (Ent.ownLe (a := x.2.2.1) (n := J.held.length) (cap := x.2.2.2) (T := 3) (size := 1) (cs := J.held.map genC) MM) (fun hcapg => ?_)
  rw [hx, hxg]
  repeat (first | refine GD ?_ | refine NW fun _ => ?_)
  refine WL.step rfl (OP.call (pre := [rdsk p D]) rfl rfl (rdflush_ok p D hD (by omega)) PS rfl rfl ?_)
  rintro _ _ ⟨rfl, rfl⟩
  repeat (first | refine GD ?_ | refine NW fun _ => ?_)
  rw [show ((n : Int) - 1).toNat = n - 1 by omega]
  refine WL.step rfl (OP.load1 (v := genC J.held[n - 1]) rfl rfl rfl rfl (Ent.elem (i := (n - 1) * 1) (Ent.own (T := 3) MM) rfl (by simp [hn1])) rfl rfl ?_)
  unfold genC
  generalize (J.held[n - 1]).1 = lw at *
  repeat (first | refine GD ?_ | refine NW fun _ => ?_)
  refine WL.imp (M := [rjrn j p ⟨J.ring, ⟨J.hd.turn, J.hd.first + n, J.hd.gen, lw⟩, J.held.drop n⟩, rdsk p D.flush, F]) ?_ ?_
  · refine Imp.trans (M := ownS (some ⟨b, off, none⟩) J.held.length x.2.1 42 5 (J.held.flatMap (fun x => encR x.2)) :: ownS (some ⟨bg, offg, none⟩) J.held.length x.2.2.2 3 1 (J.held.map genC) ::
      [blk j [.pointer (some ⟨p, 0, none⟩), .int .i64 J.ring, .int .i64 J.hd.turn, .int .i64 (J.hd.first + n), .int .i64 J.hd.gen, .int .i64 lw, .slice (cutA (some ⟨b, off, none⟩) x.2.1 n 5) (J.held.length - n) (x.2.1 - n), .slice (cutA (some ⟨bg, offg, none⟩) x.2.2.2 n 1) (J.held.length - n) (x.2.2.2 - n)] 59, rdsk p D.flush, F]) II ?_
    refine Imp.trans (Imp.ownDrop (k := n) (by omega)) ?_
    refine Imp.trans (Imp.cons (Imp.ownDrop (k := n) (by omega))) ?_
    rw [flat_drop (f := fun x : Held => encR x.2) (fun _ => rfl), Nat.mul_one, ← List.map_drop]
    refine Imp.trans ?_ (rjrnFold j p ⟨J.ring, ⟨J.hd.turn, J.hd.first + n, J.hd.gen, lw⟩, J.held.drop n⟩ (cutA (some ⟨b, off, none⟩) x.2.1 n 5, x.2.1 - n, cutA (some ⟨bg, offg, none⟩) x.2.2.2 n 1, x.2.2.2 - n))
    dsimp only
    rw [List.length_drop]
    exact II
  refine WL.step rfl (OP.call (pre := [rjrn j p ⟨J.ring, ⟨J.hd.turn, J.hd.first + n, J.hd.gen, lw⟩, J.held.drop n⟩, rdsk p D.flush]) rfl rfl (rsave_ok j p ⟨J.ring, ⟨J.hd.turn, J.hd.first + n, J.hd.gen, lw⟩, J.held.drop n⟩ D.flush ⟨t1, t2⟩ (Dsk.settle_ok hD _) (by rw [show D.flush.S.length = D.S.length from Dsk.settle_len D _]; omega) (by show (0 : Nat) < 10000; decide)) PS rfl rfl ?_)
  rintro _ _ ⟨rfl, rfl⟩
  repeat (first | refine GD ?_ | refine NW fun _ => ?_)
  refine ret1 rfl ⟨_, ?_, Imp.refl _⟩
  unfold RTrimJ
  rw [hdef]
  exact ⟨rfl, rfl⟩
end Go.Proofs.YteednjcoapmkaaaGreatDoor
