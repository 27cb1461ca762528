/- Contracts of functions of the given program, and plain laws: parts of the proofs of laws. -/
import Derived.Test.YteednjcoapmkaaaGreatDoorZVol7
import Derived.Test.YteednjcoapmkaaaGreatDoorZVol14
import Derived.Test.YteednjcoapmkaaaGreatDoorZVol16
/- Contracts of functions of the given program, and plain laws on what they compute: parts of the proofs of laws. -/

namespace Go.Proofs.YteednjcoapmkaaaGreatDoor
open Go Go.GL

/-! the document's journal: its parts -/
def genC (x : Held) : Value := .int .i64 x.1
def rjrnL (j p : Nat) (J : Jrn) (x : Option Addr × Nat × Option Addr × Nat) : List Assn :=
  [blk j [.pointer (some ⟨p, 0, none⟩), .int .i64 J.ring, .int .i64 J.hd.turn, .int .i64 J.hd.first, .int .i64 J.hd.gen, .int .i64 J.hd.low, .slice x.1 J.held.length x.2.1, .slice x.2.2.1 J.held.length x.2.2.2] 59,
   ownS x.1 J.held.length x.2.1 42 5 (J.held.flatMap (fun x => encR x.2)), ownS x.2.2.1 J.held.length x.2.2.2 3 1 (J.held.map genC)]
def rjrn (j p : Nat) (J : Jrn) : Assn := exA (rjrnL j p J)
theorem up_rjrn (j p : Nat) (J : Jrn) : Up (rjrn j p J) := up_exA _
theorem rjrnFold (j p : Nat) (J : Jrn) (x : Option Addr × Nat × Option Addr × Nat) {N : List Assn} : Imp
    (blk j [.pointer (some ⟨p, 0, none⟩), .int .i64 J.ring, .int .i64 J.hd.turn, .int .i64 J.hd.first, .int .i64 J.hd.gen, .int .i64 J.hd.low, .slice x.1 J.held.length x.2.1, .slice x.2.2.1 J.held.length x.2.2.2] 59 ::
      ownS x.1 J.held.length x.2.1 42 5 (J.held.flatMap (fun x => encR x.2)) :: ownS x.2.2.1 J.held.length x.2.2.2 3 1 (J.held.map genC) :: N) (rjrn j p J :: N) := Imp.fold (Ls := rjrnL j p J) x
set_option maxRecDepth 10000 in
theorem rnext_ro (j p : Nat) (J : Jrn) (hJ : J.rng) : RO G 25 [.pointer (some ⟨j, 0, none⟩)] (rjrn j p J) (.int .i64 J.next) := by
  refine RO.enterEx Tryz.func25 rfl (by decide) rfl Tryz.ntmps25 rfl (fun x A hu hA => ?_)
  have hB : ∀ {L}, A ∈ L → Ent L (cellsAt j 0 [.pointer (some ⟨p, 0, none⟩), .int .i64 J.ring, .int .i64 J.hd.turn, .int .i64 J.hd.first, .int .i64 J.hd.gen, .int .i64 J.hd.low, .slice x.1 J.held.length x.2.1, .slice x.2.2.1 J.held.length x.2.2.2]) := fun m => Ent.of hu hA m (Ent.whole (List.Mem.head _))
  obtain ⟨⟨r1, r2⟩, hlen, ⟨t1, t2⟩, ⟨f1, f2⟩, ⟨g1, g2⟩⟩ := hJ
  repeat (first | refine GD ?_ | refine NW fun _ => ?_)
  refine RD 11 11 (_) ?_
  refine WP 0 ?_
  refine WP 1 ?_
  refine WP 2 ?_
  refine VL 3 (.int .i64 J.hd.first) rfl rfl rfl rfl (.inl ⟨rfl, Ent.one (i := 3) (hB MM) rfl⟩) ?_
  refine WP 4 ?_
  refine WP 5 ?_
  refine WP 6 ?_
  refine VL 7 (.slice x.1 J.held.length x.2.1) rfl rfl rfl rfl (.inl ⟨rfl, Ent.one (i := 6) (hB MM) rfl⟩) ?_
  refine WP 8 ?_
  refine WP 9 ?_
  refine WP 10 ?_
  refine DN ?_
  repeat (first | refine GD ?_ | refine NW fun _ => ?_)
  exact ret1 rfl ⟨rfl, MM⟩
set_option maxHeartbeats 1000000 in
set_option maxRecDepth 10000 in
theorem rsave_ok (j p : Nat) (J : Jrn) (D : Dsk) (hJ : 0 ≤ J.hd.turn ∧ J.hd.turn ≤ 4611686018427387904) (hD : D.ok) (hl : 2 ≤ D.S.length) (hw : D.W.length < 10000) :
    Triple G 57 [.pointer (some ⟨j, 0, none⟩)] [rjrn j p J, rdsk p D] (fun v M => v = .tuple #[] ∧ M = [rjrn j p { J with hd := J.hd.up }, rdsk p (saveM D J.hd.up)]) := by
  refine Triple.enter Tryz.func57 rfl (by decide) rfl Tryz.ntmps57 rfl (fun F => ?_)
  refine WC.open P1 (fun x => ?_)
  unfold rjrnL
  dsimp only [List.cons_append, List.nil_append]
  have hu : J.hd.up = ⟨J.hd.turn + 1, J.hd.first, J.hd.gen, J.hd.low⟩ := rfl
  have hb := headS_len J.hd.up
  have hi : (0 ≤ (J.hd.turn + 1) % 2 ∧ (J.hd.turn + 1) % 2 < D.S.length) ∧ (headS J.hd.up).length = 64 := ⟨by omega, hb⟩
  have hws := rdwrite_ok p D ((J.hd.turn + 1) % 2) (headS J.hd.up) (by omega)
  repeat (first | refine GO ?_ | refine NW fun _ => ?_)
  refine RD 26 27 (_) ?_
  refine WP 0 ?_
  refine WP 1 ?_
  refine WP 2 ?_
  refine VV 3 ?_
  refine WP 4 ?_
  refine WP 5 ?_
  refine WP 6 ?_
  refine VV 7 ?_
  refine WP 8 ?_
  refine WP 9 ?_
  refine WP 10 ?_
  refine WP 11 ?_
  refine VV 12 ?_
  refine WP 13 ?_
  refine WP 14 ?_
  refine WP 15 ?_
  refine VV 16 ?_
  refine WP 17 ?_
  refine WP 18 ?_
  refine WP 19 ?_
  refine VV 20 ?_
  refine WP 21 ?_
  refine WP 22 ?_
  refine WP 23 ?_
  refine VV 24 ?_
  refine WH.only 25 rfl rfl (by kernel_rfl) rfl (OP.callRO rfl rfl (qheadBytes_ro J.hd.up) (fun _ _ => trivial) rfl rfl ⟨fun _ => II, ?_⟩)
  refine WH.only 26 rfl rfl (by kernel_rfl) rfl (OP.call (pre := [rdsk p D]) rfl rfl hws PS rfl rfl (fun v M hM => ?_))
  unfold RWrPost at hM
  rw [if_pos hi] at hM
  obtain ⟨rfl, rfl⟩ := hM
  refine ⟨(fun h => nomatch h), ?_⟩
  refine DN ?_
  repeat (first | refine GO ?_ | refine NW fun _ => ?_)
  refine WL.step rfl (OP.call (pre := [rdsk p (D.put ((J.hd.turn + 1) % 2).toNat (headS J.hd.up))]) rfl rfl (rdflush_ok p _ (Dsk.put_ok hD (by omega) hb) (by simp [Dsk.put]; omega)) PS rfl rfl ?_)
  rintro _ _ ⟨rfl, rfl⟩
  repeat (first | refine GO ?_ | refine NW fun _ => ?_)
  exact ret0n ⟨_, ⟨rfl, rfl⟩, Imp.trans II (rjrnFold j p { J with hd := J.hd.up } x)⟩
end Go.Proofs.YteednjcoapmkaaaGreatDoor
/- Contracts of functions of the given program, and plain laws on what they compute: parts of the proofs of laws. -/

namespace Go.Proofs.YteednjcoapmkaaaGreatDoor
open Go Go.GL

def RAppJ (j p : Nat) (J : Jrn) (D : Dsk) (r : Rec) (v : Value) (M : List Assn) : Prop := match appendM J D r with
  | .ok (J', D') => v = .tuple #[.int .i64 J.next, .int .i64 0] ∧ M = [rjrn j p J', rdsk p D']
  | .error c => v = .tuple #[.int .i64 0, .int .i64 c] ∧ M = [rjrn j p J, rdsk p D]
set_option maxHeartbeats 8000000 in
set_option maxRecDepth 10000 in
theorem rappend_ok (j p : Nat) (J : Jrn) (D : Dsk) (r : Rec) (hJ : J.rng) (hl : 2 + J.ring ≤ D.S.length) (hw : D.W.length < 10000) (hsz : r.2.2.2.1.size < 1000000) :
    Triple G 16 [.pointer (some ⟨j, 0, none⟩), .agg (encR r).toArray] [rjrn j p J, rdsk p D] (RAppJ j p J D r) := by
  refine Triple.enter Tryz.func16 rfl (by decide) rfl Tryz.ntmps16 rfl (fun F => ?_)
  have hnext := rnext_ro j p J hJ
  have hdef : appendM J D r = if J.held.length = J.ring then .error 6
    else if RightR (setSeq r J.next) ∧ (0 ≤ J.hd.gen ∧ J.hd.gen ≤ widest) then
    .ok ({ J with held := J.held ++ [(J.hd.gen, setSeq r J.next)] }, D.put (posM J.ring J.next) (sectorM (bodyM J.hd.gen (setSeq r J.next))))
    else .error 1 := rfl
  have hnx : J.next = J.hd.first + J.held.length := rfl
  obtain ⟨⟨r1, r2⟩, hlen, ⟨t1, t2⟩, ⟨f1, f2⟩, ⟨g1, g2⟩⟩ := hJ
  have hn0 : 0 ≤ J.next ∧ J.next ≤ 9000000000000000000 := by omega
  have hpb := pos_bd r1 J.next
  have hm := Int.emod_nonneg J.next (b := (J.ring : Int)) (by omega)
  have hm2 := Int.emod_lt_of_pos J.next (b := (J.ring : Int)) (by omega)
  have hpe : 2 + J.next % J.ring = ((posM J.ring J.next : Nat) : Int) := by unfold posM; omega
  obtain ⟨seq, kind, block, data, num⟩ := r
  have hss : setSeq (seq, kind, block, data, num) J.next = (J.next, kind, block, data, num) := rfl
  rw [hss] at hdef
  dsimp only at hsz
  have henc := qencode_ro J.hd.gen (J.next, kind, block, data, num) hsz
  unfold EncQ at henc
  rw [show encR (seq, kind, block, data, num) = [.int .i64 seq, .int .i64 kind, .int .i64 block, .string data, .int .i64 num] from rfl]
  rw [show encR (J.next, kind, block, data, num) = [.int .i64 J.next, .int .i64 kind, .int .i64 block, .string data, .int .i64 num] from rfl] at henc
  have hwr := rdwrite_ok p D (posM J.ring J.next) (sectorM (bodyM J.hd.gen (J.next, kind, block, data, num))) (by omega)
  have hEJ : ∀ {L : List Assn} {x}, Imp L (rjrnL j p J x) → Ent L (rjrn j p J) := fun i => Ent.exI _ i
  refine WC.open P1 (fun x => ?_)
  unfold rjrnL
  dsimp only [List.cons_append, List.nil_append]
  repeat (first | refine GD ?_ | refine NW fun _ => ?_)
  by_cases hfull : J.held.length = J.ring
  · rw [if_pos hfull] at hdef
    refine RD 10 10 (_) ?_
    refine WP 0 ?_
    refine WP 1 ?_
    refine WP 2 ?_
    refine VV 3 ?_
    refine WP 4 ?_
    refine WP 5 ?_
    refine WP 6 ?_
    refine WP 7 ?_
    refine VV 8 ?_
    refine WP 9 ?_
    rw [decide_eq_true (show (J.held.length : Int) = J.ring by omega)]
    refine DN ?_
    repeat (first | refine GD ?_ | refine NW fun _ => ?_)
    refine ret2 rfl rfl ⟨[rjrn j p J, rdsk p D], ?_, Imp.trans II (rjrnFold j p J x)⟩
    unfold RAppJ
    rw [hdef]
    exact ⟨rfl, rfl⟩
  rw [if_neg hfull] at hdef
  refine RD 10 10 (_) ?_
  refine WP 0 ?_
  refine WP 1 ?_
  refine WP 2 ?_
  refine VV 3 ?_
  refine WP 4 ?_
  refine WP 5 ?_
  refine WP 6 ?_
  refine WP 7 ?_
  refine VV 8 ?_
  refine WP 9 ?_
  rw [decide_eq_false (show ¬ (J.held.length : Int) = J.ring by omega)]
  refine DN ?_
  repeat (first | refine GD ?_ | refine NW fun _ => ?_)
  refine WL.step rfl (OP.callRO rfl rfl hnext (hEJ (x := x) (by unfold rjrnL; exact II)) rfl rfl ?_)
  repeat (first | refine GD ?_ | refine NW fun _ => ?_)
  by_cases hR : RightR (J.next, kind, block, data, num) ∧ (0 ≤ J.hd.gen ∧ J.hd.gen ≤ widest)
  rotate_left
  · rw [if_neg hR] at hdef henc
    refine RD 11 11 (_) ?_
    refine WP 0 ?_
    refine WP 1 ?_
    refine WP 2 ?_
    refine VV 3 ?_
    refine VV 4 ?_
    refine WH.only 5 rfl rfl (by kernel_rfl) rfl (OP.callRO rfl rfl (henc) (fun _ _ => trivial) rfl rfl ⟨fun _ => II, ?_⟩)
    refine WP 6 ?_
    refine WP 7 ?_
    refine WP 8 ?_
    refine WP 9 ?_
    refine WP 10 ?_
    refine DN ?_
    repeat (first | refine GD ?_ | refine NW fun _ => ?_)
    refine ret2 rfl rfl ⟨[rjrn j p J, rdsk p D], ?_, Imp.trans II (rjrnFold j p J x)⟩
    unfold RAppJ
    rw [hdef]
    exact ⟨rfl, rfl⟩
  rw [if_pos hR] at hdef henc
  have hsl := sectorM_len (bodyM_len (gen := J.hd.gen) hR.1)
  generalize hS : sectorM (bodyM J.hd.gen (J.next, kind, block, data, num)) = S at *
  refine RD 11 11 (_) ?_
  refine WP 0 ?_
  refine WP 1 ?_
  refine WP 2 ?_
  refine VV 3 ?_
  refine VV 4 ?_
  refine WH.only 5 rfl rfl (by kernel_rfl) rfl (OP.callRO rfl rfl (henc) (fun _ _ => trivial) rfl rfl ⟨fun _ => II, ?_⟩)
  refine WP 6 ?_
  refine WP 7 ?_
  refine WP 8 ?_
  refine WP 9 ?_
  refine WP 10 ?_
  refine DN ?_
  repeat (first | refine GD ?_ | refine NW fun _ => ?_)
  refine RD 13 14 (_) ?_
  refine WP 0 ?_
  refine WP 1 ?_
  refine WP 2 ?_
  refine VV 3 ?_
  refine WP 4 ?_
  refine VV 5 ?_
  refine WP 6 ?_
  refine WP 7 ?_
  refine WP 8 ?_
  refine VV 9 ?_
  refine WP 10 ?_
  refine WP 11 ?_
  rw [hpe]
  refine WP 12 ?_
  refine WH.only 13 rfl rfl (by kernel_rfl) rfl (OP.call (pre := [rdsk p D]) rfl rfl hwr PS rfl rfl (fun v M hM => ?_))
  unfold RWrPost at hM
  rw [if_pos ⟨by omega, hsl⟩, Int.toNat_natCast] at hM
  obtain ⟨rfl, rfl⟩ := hM
  refine ⟨(fun h => nomatch h), ?_⟩
  refine DN ?_
  repeat (first | refine GD ?_ | refine NW fun _ => ?_)
  refine RD 7 11 (_) ?_
  refine WP 0 ?_
  refine WP 1 ?_
  refine WP 2 ?_
  refine WP 3 ?_
  refine VV 4 ?_
  refine VV 5 ?_
  refine WH.only 6 rfl rfl (by kernel_rfl) rfl (OP.sliceLit (c := encR (J.next, kind, block, data, num)) rfl rfl rfl rfl rfl rfl rfl rfl (fun b2 => ⟨fun _ => II, ?_⟩))
  refine WH.only 7 rfl rfl (by kernel_rfl) rfl (OP.append rfl rfl rfl rfl rfl rfl rfl rfl rfl P1 (Ent.own MM) rfl (by omega) (by omega) rfl rfl (fun a' cap' => ⟨(fun h => nomatch h), ?_⟩))
  refine WP 8 ?_
  refine WP 9 ?_
  refine WH.only 10 rfl rfl (by kernel_rfl) rfl (OP.store rfl rfl rfl rfl rfl rfl rfl UP rfl ⟨(fun h => nomatch h), ?_⟩)
  refine DN ?_
  repeat (first | refine GD ?_ | refine NW fun _ => ?_)
  refine RD 10 14 (_) ?_
  refine WP 0 ?_
  refine WP 1 ?_
  refine WP 2 ?_
  refine WP 3 ?_
  refine VV 4 ?_
  refine WP 5 ?_
  refine WP 6 ?_
  refine WP 7 ?_
  refine VV 8 ?_
  refine WH.only 9 rfl rfl (by kernel_rfl) rfl (OP.sliceLit (c := [.int .i64 J.hd.gen]) rfl rfl rfl rfl rfl rfl rfl rfl (fun b3 => ⟨fun _ => II, ?_⟩))
  refine WH.only 10 rfl rfl (by kernel_rfl) rfl (OP.append rfl rfl rfl rfl rfl rfl rfl rfl rfl P1 (Ent.own MM) rfl (by omega) (by omega) rfl rfl (fun a3 cap3 => ⟨(fun h => nomatch h), ?_⟩))
  refine WP 11 ?_
  refine WP 12 ?_
  refine WH.only 13 rfl rfl (by kernel_rfl) rfl (OP.store rfl rfl rfl rfl rfl rfl rfl UP rfl ⟨(fun h => nomatch h), ?_⟩)
  refine DN ?_
  repeat (first | refine GD ?_ | refine NW fun _ => ?_)
  refine ret2 rfl rfl ⟨[rjrn j p { J with held := J.held ++ [(J.hd.gen, J.next, kind, block, data, num)] }, rdsk p (D.put (posM J.ring J.next) S)], ?_, ?_⟩
  · unfold RAppJ
    rw [hdef]
    exact ⟨rfl, rfl⟩
  · refine Imp.trans ?_ (rjrnFold j p { J with held := J.held ++ [(J.hd.gen, J.next, kind, block, data, num)] } (a', cap', a3, cap3))
    dsimp only
    rw [List.length_append, List.flatMap_append, List.flatMap_cons, List.flatMap_nil, List.append_nil, List.map_append]
    exact II
end Go.Proofs.YteednjcoapmkaaaGreatDoor
/- Contracts of functions of the given program, and plain laws on what they compute: parts of the proofs of laws. -/

namespace Go.Proofs.YteednjcoapmkaaaGreatDoor
open Go Go.GL

/-- the front of what a slice owns is cut off -/
theorem Imp.ownDrop {L : List Assn} {b off n cap : Nat} {T : TypeId} {size : Nat} {cs : List Value} {k : Nat} (hk : k ≤ n) :
    Imp (ownS (some ⟨b, off, none⟩) n cap T size cs :: L) (ownS (cutA (some ⟨b, off, none⟩) cap k size) (n - k) (cap - k) T size (cs.drop (k * size)) :: L) := fun _ s => stars_head_mono (fun h ⟨hl, hle, ho⟩ => by
  rcases ho with ⟨e, _⟩ | ⟨b', pre, post, e, hc, hb⟩
  · cases e
  · have hkl : k * size ≤ cs.length := by rw [hl]; exact Nat.mul_le_mul_right _ hk
    have hdl : (cs.drop (k * size)).length = (n - k) * size := by rw [List.length_drop, hl, Nat.sub_mul]
    refine ⟨hdl, by omega, .inr ?_⟩
    obtain ⟨hbb, hoff⟩ : b = b' ∧ off = pre.length := by
      simp only [Option.some.injEq, Addr.mk.injEq] at e; exact ⟨e.1, e.2.1⟩
    subst hbb hoff
    by_cases hck : cap = k
    · have hn : n = k := by omega
      subst hn hck
      have hd : cs.drop (cap * size) = [] := List.drop_eq_nil_of_le (by omega)
      rw [hd]
      exact ⟨b, pre, cs ++ post, by unfold cutA; rw [if_pos rfl], by simp, by simpa using hb⟩
    · refine ⟨b, pre ++ cs.take (k * size), post, ?_, ?_, ?_⟩
      · unfold cutA; rw [if_neg hck]
        simp only [Option.map_some, Addr.add, List.length_append, List.length_take, Nat.min_eq_left hkl]
        split
        · rename_i h0; rw [h0]; rfl
        · rfl
      · rw [Nat.sub_mul, hdl, Nat.sub_mul]
        have : n * size ≤ cap * size := Nat.mul_le_mul_right _ hle
        have h2 : k * size ≤ n * size := Nat.mul_le_mul_right _ hk
        omega
      · rw [List.append_assoc pre, List.take_append_drop]; exact hb) s
def RTrimJ (j p : Nat) (J : Jrn) (D : Dsk) (k : Int) (v : Value) (M : List Assn) : Prop := match trimM J D k with
  | .ok (J', D') => v = .int .i64 0 ∧ M = [rjrn j p J', rdsk p D']
  | .error c => v = .int .i64 c ∧ M = [rjrn j p J, rdsk p D]
set_option maxHeartbeats 8000000 in
set_option maxRecDepth 10000 in
theorem rtrim_ok (j p : Nat) (J : Jrn) (D : Dsk) (k : Int) (hJ : J.rng) (hD : D.ok) (hl : 2 + J.ring ≤ D.S.length) (hw : D.W.length < 10000) :
    Triple G 20 [.pointer (some ⟨j, 0, none⟩), .int .i64 k] [rjrn j p J, rdsk p D] (RTrimJ j p J D k) := by
  refine Triple.enter Tryz.func20 rfl (by decide) rfl Tryz.ntmps20 rfl (fun F => ?_)
  obtain ⟨⟨r1, r2⟩, hlen, ⟨t1, t2⟩, ⟨f1, f2⟩, ⟨g1, g2⟩⟩ := hJ
  have hdef : trimM J D k = if k < 0 ∨ (J.held.length : Int) < k then .error 1
    else if k = 0 then .ok (J, D)
    else .ok ({ J with hd := { J.hd with turn := J.hd.turn + 1, first := J.hd.first + k, low := (J.held.getD (k.toNat - 1) (0, rec0)).1 }, held := J.held.drop k.toNat },
      saveM D.flush { J.hd with turn := J.hd.turn + 1, first := J.hd.first + k, low := (J.held.getD (k.toNat - 1) (0, rec0)).1 }) := rfl
  refine WC.open P1 (fun x => ?_)
  unfold rjrnL
  dsimp only [List.cons_append, List.nil_append]
  by_cases h1 : k < 0
  · have hop : trimM J D k = .error 1 := by rw [hdef, if_pos (.inl h1)]
    repeat (first | refine GD ?_ | refine NW fun _ => ?_)
    refine ret1 rfl ⟨[rjrn j p J, rdsk p D], ?_, Imp.trans II (rjrnFold j p J x)⟩
    unfold RTrimJ
    rw [hop]
    exact ⟨rfl, rfl⟩
  by_cases h2 : (J.held.length : Int) < k
  · have hop : trimM J D k = .error 1 := by rw [hdef, if_pos (.inr h2)]
    repeat (first | refine GD ?_ | refine NW fun _ => ?_)
    refine ret1 rfl ⟨[rjrn j p J, rdsk p D], ?_, Imp.trans II (rjrnFold j p J x)⟩
    unfold RTrimJ
    rw [hop]
    exact ⟨rfl, rfl⟩
  rw [if_neg (by omega)] at hdef
  by_cases h3 : k = 0
  · subst h3
    rw [if_pos rfl] at hdef
    have hop := hdef
    repeat (first | refine GD ?_ | refine NW fun _ => ?_)
    refine ret1 rfl ⟨[rjrn j p J, rdsk p D], ?_, Imp.trans II (rjrnFold j p J x)⟩
    unfold RTrimJ
    rw [hop]
    exact ⟨rfl, rfl⟩
  rw [if_neg h3] at hdef
  obtain ⟨n, rfl⟩ : ∃ n : Nat, k = n := ⟨k.toNat, by omega⟩
  rw [Int.toNat_natCast] at hdef
  have hn1 : n - 1 < J.held.length := by omega
  rw [List.getD_eq_getElem?_getD, List.getElem?_eq_getElem hn1] at hdef
  dsimp only [Option.getD_some] at hdef
  refine WC.fact (Ent.some (Ent.own (a := x.1) (n := J.held.length) (cap := x.2.1) (T := 42) (size := 5) (cs := J.held.flatMap (fun x => encR x.2)) MM) (by omega)) ?_
  rintro ⟨b, off, hx⟩
  refine WC.fact (Ent.ownLe (a := x.1) (n := J.held.length) (cap := x.2.1) (T := 42) (size := 5) (cs := J.held.flatMap (fun x => encR x.2)) MM) (fun hcap => ?_)
  refine WC.fact (Ent.some (Ent.own (a := x.2.2.1) (n := J.held.length) (cap := x.2.2.2) (T := 3) (size := 1) (cs := J.held.map genC) MM) (by omega)) ?_
  rintro ⟨bg, offg, hxg⟩
  refine WC.fact (Ent.ownLe (a := x.2.2.1) (n := J.held.length) (cap := x.2.2.2) (T := 3) (size := 1) (cs := J.held.map genC) MM) (fun hcapg => ?_)
  rw [hx, hxg]
  repeat (first | refine GD ?_ | refine NW fun _ => ?_)
  refine WL.step rfl (OP.call (pre := [rdsk p D]) rfl rfl (rdflush_ok p D hD (by omega)) PS rfl rfl ?_)
  rintro _ _ ⟨rfl, rfl⟩
  repeat (first | refine GD ?_ | refine NW fun _ => ?_)
  rw [show ((n : Int) - 1).toNat = n - 1 by omega]
  refine WL.step rfl (OP.load1 (v := genC J.held[n - 1]) rfl rfl rfl rfl (Ent.elem (i := (n - 1) * 1) (Ent.own (T := 3) MM) rfl (by simp [hn1])) rfl rfl ?_)
  unfold genC
  generalize (J.held[n - 1]).1 = lw at *
  repeat (first | refine GD ?_ | refine NW fun _ => ?_)
  refine WL.imp (M := [rjrn j p ⟨J.ring, ⟨J.hd.turn, J.hd.first + n, J.hd.gen, lw⟩, J.held.drop n⟩, rdsk p D.flush, F]) ?_ ?_
  · refine Imp.trans (M := ownS (some ⟨b, off, none⟩) J.held.length x.2.1 42 5 (J.held.flatMap (fun x => encR x.2)) :: ownS (some ⟨bg, offg, none⟩) J.held.length x.2.2.2 3 1 (J.held.map genC) ::
      [blk j [.pointer (some ⟨p, 0, none⟩), .int .i64 J.ring, .int .i64 J.hd.turn, .int .i64 (J.hd.first + n), .int .i64 J.hd.gen, .int .i64 lw, .slice (cutA (some ⟨b, off, none⟩) x.2.1 n 5) (J.held.length - n) (x.2.1 - n), .slice (cutA (some ⟨bg, offg, none⟩) x.2.2.2 n 1) (J.held.length - n) (x.2.2.2 - n)] 59, rdsk p D.flush, F]) II ?_
    refine Imp.trans (Imp.ownDrop (k := n) (by omega)) ?_
    refine Imp.trans (Imp.cons (Imp.ownDrop (k := n) (by omega))) ?_
    rw [flat_drop (f := fun x : Held => encR x.2) (fun _ => rfl), Nat.mul_one, ← List.map_drop]
    refine Imp.trans ?_ (rjrnFold j p ⟨J.ring, ⟨J.hd.turn, J.hd.first + n, J.hd.gen, lw⟩, J.held.drop n⟩ (cutA (some ⟨b, off, none⟩) x.2.1 n 5, x.2.1 - n, cutA (some ⟨bg, offg, none⟩) x.2.2.2 n 1, x.2.2.2 - n))
    dsimp only
    rw [List.length_drop]
    exact II
  refine WL.step rfl (OP.call (pre := [rjrn j p ⟨J.ring, ⟨J.hd.turn, J.hd.first + n, J.hd.gen, lw⟩, J.held.drop n⟩, rdsk p D.flush]) rfl rfl (rsave_ok j p ⟨J.ring, ⟨J.hd.turn, J.hd.first + n, J.hd.gen, lw⟩, J.held.drop n⟩ D.flush ⟨t1, t2⟩ (Dsk.settle_ok hD _) (by rw [show D.flush.S.length = D.S.length from Dsk.settle_len D _]; omega) (by show (0 : Nat) < 10000; decide)) PS rfl rfl ?_)
  rintro _ _ ⟨rfl, rfl⟩
  repeat (first | refine GD ?_ | refine NW fun _ => ?_)
  refine ret1 rfl ⟨_, ?_, Imp.refl _⟩
  unfold RTrimJ
  rw [hdef]
  exact ⟨rfl, rfl⟩
end Go.Proofs.YteednjcoapmkaaaGreatDoor
