/- Contracts of functions of the given program, and plain laws: parts of the proofs of laws. -/
import Derived.Test.YtleajkobmhhacaaGreatDoorZCQ4
import Derived.Test.YtleajkobmhhacaaGreatDoorZCQ10
import Derived.Test.YtleajkobmhhacaaGreatDoorZCQ8
import Derived.Test.YtleajkobmhhacaaGreatDoorZCQ9
import Derived.Test.YtleajkobmhhacaaGreatDoorZCQ5
/- Contracts of functions of the given program, and plain laws on what they compute: parts of the proofs of laws. -/

namespace Go.Proofs.YtleajkobmhhacaaGreatDoor
open Go Go.GL

/-- the faults of an append -/
def appEr (J : Jrn) (c : Int) : List (ByteArray × Int) := if c = 6 then [(jrnT, J.next)] else [(jrnT, J.next), (recW, J.next)]
def AppJ (j p : Nat) (J : Jrn) (D : Dsk) (r : Rec) (v : Value) (M : List Assn) : Prop := match appendM J D r with
  | .ok (J', D') => v = .tuple #[.int .i64 J.next, .nilIface] ∧ M = [jrn j p J', dsk p D']
  | .error c => ∃ e E, IsEr (some (appEr J c, c)) e E ∧ v = .tuple #[.int .i64 0, e] ∧ M = E ++ [jrn j p J, dsk p D]
set_option maxHeartbeats 8000000 in
set_option maxRecDepth 10000 in
theorem jappend_ok (j p : Nat) (J : Jrn) (D : Dsk) (r : Rec) (hJ : J.rng) (hl : 2 + J.ring ≤ D.S.length) (hw : D.W.length < 10000) (hsz : r.2.2.2.1.size < 1000000) :
    Triple G 83 [.pointer (some ⟨j, 0, none⟩), .agg (encR r).toArray] [jrn j p J, dsk p D] (AppJ j p J D r) := by
  refine Triple.enter Tryz.func83 rfl (by decide) rfl Tryz.ntmps83 rfl (fun F => ?_)
  have hnext := jnext_ro j p J hJ
  have hroom := jroom_ro j p J hJ
  have hdef : appendM J D r = if J.held.length = J.ring then .error 6
    else if RightR (setSeq r J.next) ∧ (0 ≤ J.hd.gen ∧ J.hd.gen ≤ widest) then
    .ok ({ J with held := J.held ++ [(J.hd.gen, setSeq r J.next)] }, D.put (posM J.ring J.next) (sectorM (bodyM J.hd.gen (setSeq r J.next))))
    else .error 1 := rfl
  have hnx : J.next = J.hd.first + J.held.length := rfl
  obtain ⟨⟨r1, r2⟩, hlen, ⟨t1, t2⟩, ⟨f1, f2⟩, ⟨g1, g2⟩⟩ := hJ
  have hn0 : 0 ≤ J.next ∧ J.next ≤ 9000000000000000000 := by omega
  have hat := jat_ro j p J ⟨r1, r2⟩ J.next (by omega)
  have hpb := pos_bd r1 J.next
  obtain ⟨seq, kind, block, data, num⟩ := r
  have hss : setSeq (seq, kind, block, data, num) J.next = (J.next, kind, block, data, num) := rfl
  rw [hss] at hdef
  dsimp only at hsz
  have henc := encode_ok J.hd.gen (J.next, kind, block, data, num) hsz
  unfold EncPost at henc
  rw [show encR (seq, kind, block, data, num) = [.int .i64 seq, .int .i64 kind, .int .i64 block, .string data, .int .i64 num] from rfl]
  rw [show encR (J.next, kind, block, data, num) = [.int .i64 J.next, .int .i64 kind, .int .i64 block, .string data, .int .i64 num] from rfl] at henc
  have hwr := dwrite_ok p D (posM J.ring J.next) (sectorM (bodyM J.hd.gen (J.next, kind, block, data, num)))
  have hEJ : ∀ {L : List Assn} {x}, Imp L (jrnL j p J x) → Ent L (jrn j p J) := fun i => Ent.exI _ i
  repeat (first | refine GD ?_ | refine NW fun _ => ?_)
  refine WL.step rfl (OP.callRO rfl rfl hnext (Ent.at (up_jrn j p J) MM) rfl rfl ?_)
  repeat (first | refine GD ?_ | refine NW fun _ => ?_)
  refine WL.step rfl (OP.callRO rfl rfl hroom (Ent.at (up_jrn j p J) MM) rfl rfl ?_)
  by_cases hfull : J.held.length = J.ring
  · rw [if_pos hfull] at hdef
    rw [hfull, Int.sub_self]
    repeat (first | refine GD ?_ | refine NW fun _ => ?_)
    refine WL.step rfl (OP.call (pre := []) rfl rfl (wrap_ok jrnT J.next 6 (by decide)) PS rfl rfl ?_)
    intro v M hF
    obtain ⟨M', h1, h2⟩ := hF.isEr
    repeat (first | refine GD ?_ | refine NW fun _ => ?_)
    refine ret2 rfl rfl ⟨M' ++ [jrn j p J, dsk p D], ?_, ?_⟩
    · unfold AppJ
      rw [hdef]
      exact ⟨v, M', h1, rfl, rfl⟩
    · rw [List.append_assoc]
      exact (Imp.app h2 _).trans (Imp.appL II _)
  rw [if_neg hfull] at hdef
  have hne : ¬ (J.ring : Int) - J.held.length = 0 := by omega
  repeat (first | refine GD ?_ | refine NW fun _ => ?_)
  refine WC.open P1 (fun x => ?_)
  unfold jrnL
  dsimp only [List.cons_append, List.nil_append]
  by_cases hR : RightR (J.next, kind, block, data, num) ∧ (0 ≤ J.hd.gen ∧ J.hd.gen ≤ widest)
  rotate_left
  · rw [if_neg hR] at hdef
    refine RD 12 12 (_) ?_
    refine WP 0 ?_
    refine WP 1 ?_
    refine WP 2 ?_
    refine WP 3 ?_
    refine VV 4 ?_
    refine VV 5 ?_
    refine WH.only 6 rfl rfl (by kernel_rfl) rfl (OP.callRT rfl rfl henc (fun _ _ => trivial) rfl rfl (fun v E hE' => ?_))
    rw [if_neg hR] at hE'
    obtain ⟨e, rfl, hF⟩ := hE'
    obtain ⟨b, rfl, rfl⟩ := hF
    refine ⟨fun _ => II, ?_⟩
    refine WP 7 ?_
    refine WP 8 ?_
    refine WP 9 ?_
    refine WP 10 ?_
    refine WP 11 ?_
    refine DN ?_
    repeat (first | refine GD ?_ | refine NW fun _ => ?_)
    refine WL.imp Imp.chain1 ?_
    refine WL.step rfl (OP.call (pre := [chainR [(_, recW, J.next)] 1]) rfl rfl (wrapC_ok jrnT J.next [(_, recW, J.next)] 1 (fun h => nomatch h.1)) PS rfl rfl ?_)
    rintro v M ⟨ch, h1, rfl, rfl⟩
    repeat (first | refine GD ?_ | refine NW fun _ => ?_)
    refine ret2 rfl rfl ⟨[chainR ch 1] ++ [jrn j p J, dsk p D], ?_, ?_⟩
    · unfold AppJ
      rw [hdef]
      exact ⟨_, _, ⟨ch, h1, rfl, rfl⟩, rfl, rfl⟩
    · exact Imp.trans II ((jrnFold j p J x (N := [chainR ch 1, dsk p D, F])).trans II)
  rw [if_pos hR] at hdef
  have hsl := sectorM_len (bodyM_len (gen := J.hd.gen) hR.1)
  generalize hS : sectorM (bodyM J.hd.gen (J.next, kind, block, data, num)) = S at *
  refine RD 12 12 (_) ?_
  refine WP 0 ?_
  refine WP 1 ?_
  refine WP 2 ?_
  refine WP 3 ?_
  refine VV 4 ?_
  refine VV 5 ?_
  refine WH.only 6 rfl rfl (by kernel_rfl) rfl (OP.callRT rfl rfl henc (fun _ _ => trivial) rfl rfl (fun v E hE' => ?_))
  rw [if_pos hR] at hE'
  obtain ⟨v1, rfl, a6, cap6, rfl, rfl⟩ := hE'
  refine ⟨fun _ => II, ?_⟩
  refine WP 7 ?_
  refine WP 8 ?_
  refine WP 9 ?_
  refine WP 10 ?_
  refine WP 11 ?_
  refine DN ?_
  repeat (first | refine GD ?_ | refine NW fun _ => ?_)
  refine RD 9 10 (_) ?_
  refine WP 0 ?_
  refine WP 1 ?_
  refine WP 2 ?_
  refine VV 3 ?_
  refine WP 4 ?_
  refine WP 5 ?_
  refine VV 6 ?_
  refine WP 8 ?_
  refine WH.only 7 rfl rfl (by kernel_rfl) rfl (OP.callRO rfl rfl (hat) (hEJ (x := x) (by unfold jrnL; exact II)) rfl rfl ⟨fun _ => II, ?_⟩)
  refine WH.only 9 rfl rfl (by kernel_rfl) rfl (OP.call (pre := [dsk p D, ownS a6 S.length cap6 5 1 (S.map byteV)]) rfl rfl (hwr a6 cap6 (by omega) (by omega)) PS rfl rfl (fun v M hM => ?_))
  unfold WrPost at hM
  rw [if_pos ⟨by omega, hsl⟩, Int.toNat_natCast] at hM
  obtain ⟨rfl, rfl⟩ := hM
  refine ⟨(fun h => nomatch h), ?_⟩
  refine DN ?_
  repeat (first | refine GD ?_ | refine NW fun _ => ?_)
  refine RD 13 17 (_) ?_
  refine WP 0 ?_
  refine WP 1 ?_
  refine WP 2 ?_
  refine WP 3 ?_
  refine VV 4 ?_
  refine WP 5 ?_
  refine WP 6 ?_
  refine WP 7 ?_
  refine WP 8 ?_
  refine VV 9 ?_
  refine VV 10 ?_
  refine WH.only 11 rfl rfl (by kernel_rfl) rfl (OP.buildT rfl rfl rfl rfl ⟨fun _ => II, ?_⟩)
  refine WH.only 12 rfl rfl (by kernel_rfl) rfl (OP.sliceLit (c := heldC (J.hd.gen, J.next, kind, block, data, num)) rfl rfl rfl rfl rfl rfl rfl rfl (fun b2 => ⟨fun _ => II, ?_⟩))
  refine WH.only 13 rfl rfl (by kernel_rfl) rfl (OP.append rfl rfl rfl rfl rfl rfl rfl rfl rfl P1 (Ent.own MM) rfl (by omega) (by omega) rfl rfl (fun a' cap' => ⟨(fun h => nomatch h), ?_⟩))
  refine WP 14 ?_
  refine WP 15 ?_
  refine WH.only 16 rfl rfl (by kernel_rfl) rfl (OP.store rfl rfl rfl rfl rfl rfl rfl UP rfl ⟨(fun h => nomatch h), ?_⟩)
  refine DN ?_
  repeat (first | refine GD ?_ | refine NW fun _ => ?_)
  refine ret2 rfl rfl ⟨[jrn j p { J with held := J.held ++ [(J.hd.gen, J.next, kind, block, data, num)] }, dsk p (D.put (posM J.ring J.next) S)], ?_, ?_⟩
  · unfold AppJ
    rw [hdef]
    exact ⟨rfl, rfl⟩
  · refine Imp.trans ?_ (jrnFold j p { J with held := J.held ++ [(J.hd.gen, J.next, kind, block, data, num)] } (a', cap'))
    dsimp only
    rw [List.length_append, List.flatMap_append, List.flatMap_cons, List.flatMap_nil, List.append_nil]
    exact II
end Go.Proofs.YtleajkobmhhacaaGreatDoor
/- Contracts of functions of the given program, and plain laws on what they compute: parts of the proofs of laws. -/
namespace Go.Proofs.YtleajkobmhhacaaGreatDoor
open Go Go.GL

theorem JInv.rng {J : Jrn} {D : Dsk} {f : Nat} {B : Int} (I : JInv J D f B) (hB : B + 2 ≤ widest) : J.rng := by
  have h1 := I.ring
  have h2 := I.len
  have h3 := I.hdr
  have h4 := I.bound
  have hw : widest = 1152921504606846975 := rfl
  exact ⟨⟨h1.1, h1.2.1⟩, h2, by omega, by omega, by omega⟩
theorem JInv.few {J : Jrn} {D : Dsk} {f : Nat} {B : Int} (I : JInv J D f B) : D.W.length < 10000 := by
  have h1 := I.ring
  have h2 := I.len
  have h3 := I.wlen
  omega
theorem JInv.mono {J : Jrn} {D : Dsk} {f : Nat} {B B' : Int} (I : JInv J D f B) (h : B ≤ B') : JInv J D f B' := { I with bound := Int.le_trans I.bound h }
end Go.Proofs.YtleajkobmhhacaaGreatDoor
/- Contracts of functions of the given program, and plain laws on what they compute: parts of the proofs of laws. -/
namespace Go.Proofs.YtleajkobmhhacaaGreatDoor
open Go Go.GL

/-! the coordinator: the plain model -/
def coordT : ByteArray := ⟨#[99, 111, 111, 114, 100]⟩
def memT : ByteArray := ⟨#[109, 101, 109, 98, 101, 114]⟩
def plusB : ByteArray := ⟨#[43]⟩
def minusB : ByteArray := ⟨#[45]⟩
structure Crd where
  J : Jrn
  D : Dsk
  f : List Bool
  ch : List Ch
  R : Rnd
  last : Int
  marked : Int
def Crd.mem (C : Crd) (k : Int) : List Int := listM (atM k C.f C.ch)
/-- a record of the journal is known -/
def knowM (f : List Bool) (s : Int × List Ch) (r : Rec) : Int × List Ch :=
  if r.2.1 = 2 then (if s.1 < r.2.2.2.2 then r.2.2.2.2 else s.1, s.2)
  else if r.2.2.2.1 = plusB ∨ r.2.2.2.1 = minusB then (s.1, putCh f s.2 (s.1 + 1, r.2.2.1, decide (r.2.2.2.1 ≠ plusB)))
  else s
def knowAll (f : List Bool) (l : List Rec) : Int × List Ch := l.foldl (knowM f) (0, [])
def startC (f : List Bool) (J : Jrn) (D : Dsk) : Crd := ⟨J, D, f, (knowAll f (J.held.map Prod.snd)).2, rnd0, (knowAll f (J.held.map Prod.snd)).1, 0⟩
def openC (D : Dsk) (ring : Int) (l : List Int) : Except (List (ByteArray × Int) × Int) Crd :=
  match newM l f0 with
  | .error (v, c) => .error ([(coordT, 0), (memT, v)], c)
  | .ok f => match openM D ring with
    | .error c => .error ([(coordT, 0), (jrnT, ring)], c)
    | .ok (J, D') => .ok (startC f J D')
def Rnd.start (R : Rnd) (number : Int) (vols : List Int) : List Cmd × Rnd := ({ R with number := number, latest := number, marked := false, vols := vols } : Rnd).enter 1
def markR (n : Int) : Rec := (0, 2, 0, ⟨#[]⟩, n)
def chgR (v : Int) (inn : Bool) : Rec := (0, 1, v, if inn = true then plusB else minusB, 0)
def beginC (C : Crd) : Except (List (ByteArray × Int) × Int) ((Int × List Cmd) × Crd) :=
  if C.R.number ≠ 0 then .error ([(coordT, C.last + 1)], 9)
  else if C.mem (C.last + 1) = [] then .error ([(coordT, C.last + 1)], 8)
  else match appendM C.J C.D (markR (C.last + 1)) with
    | .error c => .error ((coordT, C.last + 1) :: appEr C.J c, c)
    | .ok (J', D') => .ok ((C.last + 1, (C.R.start (C.last + 1) (C.mem (C.last + 1))).1), { C with J := J', D := D'.flush, last := C.last + 1, R := (C.R.start (C.last + 1) (C.mem (C.last + 1))).2 })
def answerC (C : Crd) (c : Cmd) : Except (List (ByteArray × Int) × Int) (List Cmd × Crd) :=
  match answerR C.R c with
  | .error e => .error ([(coordT, c.2.2), (roundT, c.2.2)], e)
  | .ok (l, R') => .ok (l, { C with R := R', marked := if R'.complete = true then R'.done else C.marked })
def tickC (C : Crd) : List Cmd × Crd := ((tickR C.R).1, { C with R := (tickR C.R).2 })
def changeC (C : Crd) (v : Int) (inn : Bool) : Except (List (ByteArray × Int) × Int) Crd :=
  if C.J.held.length = C.J.ring then .error ([(coordT, v)], 6)
  else match putM C.f C.ch (C.last + 1, v, !inn) with
    | some c => .error ([(coordT, v), (memT, v)], c)
    | none => match appendM C.J C.D (chgR v inn) with
      | .error c => .error ((coordT, v) :: appEr C.J c, c)
      | .ok (J', D') => .ok { C with J := J', D := D'.flush, ch := C.ch ++ [(C.last + 1, v, !inn)] }

/-- what holds of a round -/
structure RI (R : Rnd) (last : Int) : Prop where
  late : R.latest ≤ last
  num : R.number = 0 ∨ R.number = last
  vols : R.number ≠ 0 → RightV R.vols ∧ 1 ≤ R.phase ∧ R.phase ≤ 3
  left : 0 ≤ R.left ∧ R.left ≤ 6
  nat : 0 ≤ R.number ∧ 0 ≤ R.done ∧ R.done ≤ last
  vl : R.vols.length ≤ 4
theorem len_le_of_mem : ∀ {a b : List Int}, a.Nodup → (∀ x ∈ a, x ∈ b) → a.length ≤ b.length
  | [], _, _, _ => Nat.zero_le _
  | x :: a, b, hn, hs => by
    have hx := hs x List.mem_cons_self
    have hn' := List.nodup_cons.1 hn
    have h := len_le_of_mem (a := a) (b := b.erase x) hn'.2 (fun y hy => by
      have hne : y ≠ x := fun e => hn'.1 (e ▸ hy)
      exact (List.mem_erase_of_ne hne).2 (hs y (List.mem_cons_of_mem _ hy)))
    rw [List.length_erase_of_mem hx] at h
    have : 0 < b.length := List.length_pos_of_mem hx
    simp only [List.length_cons]
    omega
theorem RightV.len {l : List Int} (h : RightV l) : l.length ≤ 4 := len_le_of_mem (b := [0, 1, 2, 3]) h.2.1 fun v hv => by
  have := h.2.2 v hv
  obtain rfl | rfl | rfl | rfl : v = 0 ∨ v = 1 ∨ v = 2 ∨ v = 3 := by omega
  all_goals simp
theorem RI.zero {last : Int} (h : 0 ≤ last) : RI rnd0 last := ⟨h, .inl rfl, fun h => absurd rfl h, by decide, by refine ⟨by decide, by decide, h⟩, by decide⟩
theorem rightV_list {f : List Bool} (hf : f.length = 4) (h : listM f ≠ []) : RightV (listM f) := by
  refine ⟨h, (listM_rise f hf).imp (fun h => by omega), fun v hv => ?_⟩
  unfold listM at hv
  obtain ⟨a, ha, rfl⟩ := List.mem_map.1 hv
  have := List.mem_range.1 (List.mem_filter.1 ha).1
  exact ⟨Int.natCast_nonneg _, by show (a : Int) < 4; omega⟩
theorem RI.start {R : Rnd} {last : Int} (I : RI R last) (h0 : 0 ≤ last) {l : List Int} (hl : RightV l) : RI (R.start (last + 1) l).2 (last + 1) :=
  ⟨Int.le_refl _, .inr rfl, fun _ => ⟨hl, (by decide : (1 : Int) ≤ 1), (by decide : (1 : Int) ≤ 3)⟩, (by decide : (0 : Int) ≤ 6 ∧ (6 : Int) ≤ 6), by have := I.nat; exact ⟨(by show 0 ≤ last + 1; omega), this.2.1, by show R.done ≤ last + 1; omega⟩, hl.len⟩
theorem RI.begin {R : Rnd} {last : Int} (I : RI R last) (hn : R.number = 0) {l : List Int} (hl : RightV l) : beginR R (last + 1) l = .ok (R.start (last + 1) l) := by
  unfold beginR
  have := I.late
  rw [if_neg (by omega), if_neg (by omega), if_neg (not_not_intro hl)]
  rfl
theorem RI.next {R : Rnd} {last : Int} (I : RI R last) (hn : R.number ≠ 0) : RI (nextR R).2 last := by
  obtain ⟨h1, h2, h3⟩ := I.vols hn
  have hd := I.nat
  unfold nextR
  split
  · exact ⟨I.late, I.num, fun _ => ⟨h1, (by decide : (1 : Int) ≤ 3), (by decide : (3 : Int) ≤ 3)⟩, (by decide : (0 : Int) ≤ 6 ∧ (6 : Int) ≤ 6), hd, I.vl⟩
  · split
    · exact ⟨I.late, I.num, fun _ => ⟨h1, (by decide : (1 : Int) ≤ 2), (by decide : (2 : Int) ≤ 3)⟩, (by decide : (0 : Int) ≤ 6 ∧ (6 : Int) ≤ 6), hd, I.vl⟩
    · have := I.num
      exact ⟨I.late, .inl rfl, fun h => absurd rfl h, I.left, ⟨(by decide : (0 : Int) ≤ 0), hd.1, by show R.number ≤ last; omega⟩, Nat.zero_le _⟩
theorem RI.answer {R : Rnd} {last : Int} (I : RI R last) {c : Cmd} {l : List Cmd} {R' : Rnd} (h : answerR R c = .ok (l, R')) : RI R' last := by
  unfold answerR at h
  split at h
  · cases h
  rename_i hn
  split at h
  · cases h
  have I2 : RI { R with ans := setA R.ans c.2.1 } last := ⟨I.late, I.num, I.vols, I.left, I.nat, I.vl⟩
  split at h
  · cases h; exact I2
  · have h2 : (nextR { R with ans := setA R.ans c.2.1 }).2 = R' := congrArg Prod.snd (Except.ok.inj h)
    rw [← h2]
    exact I2.next (fun e => hn (.inl e))
theorem RI.tick {R : Rnd} {last : Int} (I : RI R last) : RI (tickR R).2 last := by
  unfold tickR
  have hl := I.left
  split
  · exact I
  rename_i hn
  split
  · exact ⟨I.late, I.num, I.vols, (by show 0 ≤ R.left - 1 ∧ R.left - 1 ≤ 6; omega), I.nat, I.vl⟩
  split
  · obtain ⟨h1, h2, h3⟩ := I.vols hn
    exact ⟨I.late, I.num, fun _ => ⟨h1, (by decide : (1 : Int) ≤ 3), (by decide : (3 : Int) ≤ 3)⟩, (by decide : (0 : Int) ≤ 6 ∧ (6 : Int) ≤ 6), I.nat, I.vl⟩
  · exact ⟨I.late, I.num, I.vols, (by decide : (0 : Int) ≤ 6 ∧ (6 : Int) ≤ 6), I.nat, I.vl⟩
/-- what holds of a coordinator that is up -/
structure CInv (C : Crd) (B : Int) : Prop where
  J : JInv C.J C.D C.J.held.length B
  f4 : C.f.length = 4
  know : (C.last, C.ch) = knowAll C.f (C.J.held.map Prod.snd)
  vols : Vols C.ch
  srt : Srt C.ch
  few : C.ch.length ≤ 100
  lastc : lastM C.ch ≤ C.last + 1
  last : 0 ≤ C.last ∧ C.last ≤ C.J.held.length
  R : RI C.R C.last
  full : C.R.complete = true → C.marked = C.R.done
  marked : 0 ≤ C.marked ∧ C.marked ≤ C.last
theorem CInv.W {C : Crd} {B : Int} (I : CInv C B) : C.D.W = [] := by
  have := I.J.loose
  rw [List.drop_eq_nil_of_le (Nat.le_refl _)] at this
  exact this
theorem CInv.mono {C : Crd} {B B' : Int} (I : CInv C B) (h : B ≤ B') : CInv C B' := { I with J := { I.J with bound := Int.le_trans I.J.bound h } }
theorem CInv.num {C : Crd} {B : Int} (I : CInv C B) : C.last ≤ 512 := by
  have h1 := I.last
  have h2 := I.J.len
  have h3 := I.J.ring
  omega
theorem knowAll_snoc (f : List Bool) (l : List Rec) (r : Rec) : knowAll f (l ++ [r]) = knowM f (knowAll f l) r := by unfold knowAll; rw [List.foldl_append]; rfl
theorem CInv.right {C : Crd} {B : Int} (I : CInv C B) (hB : B + 4 ≤ widest) (hn : C.J.held.length ≠ C.J.ring) {r : Rec} (hr : (r.2.1 = 2 ∧ (1 ≤ r.2.2.2.2 ∧ r.2.2.2.2 ≤ widest) ∧ r.2.2.2.1 = ⟨#[]⟩ ∧ r.2.2.1 = 0) ∨ (r.2.1 = 1 ∧ (0 ≤ r.2.2.1 ∧ r.2.2.1 < 8) ∧ r.2.2.2.1.size ≤ 16 ∧ r.2.2.2.2 = 0)) :
    appendM C.J C.D r = .ok ({ C.J with held := C.J.held ++ [(C.J.hd.gen, setSeq r C.J.next)] }, C.D.put (posM C.J.ring C.J.next) (sectorM (bodyM C.J.hd.gen (setSeq r C.J.next)))) := by
  unfold appendM
  have h1 := I.J.hdr
  have h2 := I.J.bound
  rw [if_neg hn, if_pos]
  refine ⟨⟨?_, hr⟩, by omega⟩
  show 1 ≤ C.J.next ∧ C.J.next ≤ widest
  unfold Jrn.next
  omega
theorem CInv.begin {C : Crd} {B : Int} (I : CInv C B) (hB : B + 4 ≤ widest) {n : Int} {l : List Cmd} {C' : Crd} (h : beginC C = .ok ((n, l), C')) :
    CInv C' (B + 2) ∧ n = C.last + 1 ∧ C'.last = n ∧ C'.ch = C.ch ∧ C'.f = C.f ∧ C'.marked = C.marked ∧ C'.R.number = n ∧ C'.J.ring = C.J.ring ∧ C'.J.held.length = C.J.held.length + 1 ∧ C.R.number = 0 ∧ C.mem n ≠ [] ∧ l = (C.mem n).map (fun v => (1, v, n)) ∧
    (C'.R = { C.R with number := n, latest := n, marked := false, vols := C.mem n, phase := 1, ans := fun _ => false, left := 6 }) := by
  unfold beginC at h
  split at h
  · cases h
  rename_i h0
  split at h
  · cases h
  rename_i h1
  have h0 : C.R.number = 0 := Decidable.not_not.1 h0
  split at h
  · cases h
  rename_i J' D' ha
  cases h
  obtain ⟨Ja, e1, e2, e3⟩ := I.J.append ha
  have hw : widest = 1152921504606846975 := rfl
  have Jf := Ja.flush (by omega)
  have hl := I.last
  have hlen : J'.held.length = C.J.held.length + 1 := by rw [e3]; simp
  have hv : RightV (C.mem (C.last + 1)) := rightV_list (by rw [atM_length]; exact I.f4) h1
  have hm : C.mem (C.last + 1) ≠ [] := h1
  refine ⟨⟨Jf, I.f4, ?_, I.vols, I.srt, I.few, ?_, ⟨?_, ?_⟩, I.R.start hl.1 hv, ?_, ?_⟩, rfl, rfl, rfl, rfl, rfl, rfl, e2, hlen, h0, h1, ?_, rfl⟩
  · show (C.last + 1, C.ch) = knowAll C.f (J'.held.map Prod.snd)
    rw [e3, List.map_append, List.map_cons, List.map_nil, knowAll_snoc, ← I.know]
    show _ = knowM C.f (C.last, C.ch) (C.J.next, 2, 0, ⟨#[]⟩, C.last + 1)
    unfold knowM
    rw [if_pos rfl]
    show _ = (if C.last < C.last + 1 then C.last + 1 else C.last, C.ch)
    rw [if_pos (by omega)]
  · show lastM C.ch ≤ C.last + 1 + 1
    have := I.lastc
    omega
  · show 0 ≤ C.last + 1
    omega
  · show C.last + 1 ≤ (J'.held.length : Int)
    rw [hlen]; omega
  · exact I.full
  · show 0 ≤ C.marked ∧ C.marked ≤ C.last + 1
    have := I.marked
    omega
  · show tellL _ = _
    unfold tellL lacksM
    dsimp only [Rnd.fresh]
    rw [List.filter_eq_self.2 (fun x _ => (rfl : (!false) = true))]
theorem CInv.answer {C : Crd} {B : Int} (I : CInv C B) {c : Cmd} {l : List Cmd} {C' : Crd} (h : answerC C c = .ok (l, C')) : CInv C' B ∧ C'.last = C.last ∧ C'.ch = C.ch ∧ C'.f = C.f ∧ C'.J = C.J ∧ C'.D = C.D := by
  unfold answerC at h
  split at h
  · cases h
  rename_i l' R' ha
  cases h
  have I2 := I.R.answer ha
  have hm := I.marked
  have hd := I2.nat
  refine ⟨⟨I.J, I.f4, I.know, I.vols, I.srt, I.few, I.lastc, I.last, I2, ?_, ?_⟩, rfl, rfl, rfl, rfl, rfl⟩
  · intro hc
    show (if R'.complete = true then R'.done else C.marked) = R'.done
    rw [if_pos hc]
  · show 0 ≤ (if R'.complete = true then R'.done else C.marked) ∧ (if R'.complete = true then R'.done else C.marked) ≤ C.last
    split
    · omega
    · exact hm
theorem tickR_done (R : Rnd) : (tickR R).2.complete = R.complete ∧ (tickR R).2.done = R.done ∧ (tickR R).2.number = R.number := by
  unfold tickR
  split
  · exact ⟨rfl, rfl, rfl⟩
  split
  · exact ⟨rfl, rfl, rfl⟩
  split
  · exact ⟨rfl, rfl, rfl⟩
  · exact ⟨rfl, rfl, rfl⟩
theorem CInv.tick {C : Crd} {B : Int} (I : CInv C B) : CInv (tickC C).2 B := by
  obtain ⟨h1, h2, _⟩ := tickR_done C.R
  refine ⟨I.J, I.f4, I.know, I.vols, I.srt, I.few, I.lastc, I.last, I.R.tick, ?_, I.marked⟩
  intro hc
  show C.marked = (tickR C.R).2.done
  rw [h2]
  exact I.full (h1 ▸ hc)
theorem CInv.change {C : Crd} {B : Int} (I : CInv C B) (hB : B + 4 ≤ widest) {v : Int} {inn : Bool} {C' : Crd} (h : changeC C v inn = .ok C') :
    CInv C' (B + 2) ∧ C'.last = C.last ∧ C'.f = C.f ∧ C'.R = C.R ∧ C'.marked = C.marked ∧ putM C.f C.ch (C.last + 1, v, !inn) = none ∧ C'.ch = C.ch ++ [(C.last + 1, v, !inn)] ∧ C'.J.ring = C.J.ring ∧ C'.J.held.length = C.J.held.length + 1 := by
  unfold changeC at h
  split at h
  · cases h
  split at h
  · cases h
  rename_i hp
  split at h
  · cases h
  rename_i J' D' ha
  cases h
  obtain ⟨Ja, e1, e2, e3⟩ := I.J.append ha
  have hw : widest = 1152921504606846975 := rfl
  have Jf := Ja.flush (by omega)
  have hl := I.last
  have hlen : J'.held.length = C.J.held.length + 1 := by rw [e3]; simp
  obtain ⟨p1, p2, p3, p4, p5⟩ := put_none hp
  have hch : putCh C.f C.ch (C.last + 1, v, !inn) = C.ch ++ [(C.last + 1, v, !inn)] := by unfold putCh; rw [hp]
  refine ⟨⟨Jf, I.f4, ?_, ?_, ?_, ?_, ?_, ⟨hl.1, ?_⟩, I.R, I.full, I.marked⟩, rfl, rfl, rfl, rfl, hp, rfl, e2, hlen⟩
  · show (C.last, C.ch ++ [(C.last + 1, v, !inn)]) = knowAll C.f (J'.held.map Prod.snd)
    rw [e3, List.map_append, List.map_cons, List.map_nil, knowAll_snoc, ← I.know]
    show _ = knowM C.f (C.last, C.ch) (C.J.next, 1, v, if inn = true then plusB else minusB, 0)
    unfold knowM
    rw [if_neg (show ¬ (1 : Int) = 2 by decide)]
    cases inn with
    | true =>
      show _ = (if plusB = plusB ∨ plusB = minusB then (C.last, putCh C.f C.ch (C.last + 1, v, decide (plusB ≠ plusB))) else (C.last, C.ch))
      rw [if_pos (.inl rfl), decide_eq_false (not_not_intro rfl)]
      exact congrArg _ hch.symm
    | false =>
      show _ = (if minusB = plusB ∨ minusB = minusB then (C.last, putCh C.f C.ch (C.last + 1, v, decide (minusB ≠ plusB))) else (C.last, C.ch))
      rw [if_pos (.inr rfl), show decide (minusB ≠ plusB) = true by decide]
      exact congrArg _ hch.symm
  · intro x hx
    rcases List.mem_append.1 hx with hx | hx
    · exact I.vols x hx
    · rw [List.mem_singleton.1 hx]; exact p1
  · exact hch ▸ srt_put I.srt
  · show (C.ch ++ [_]).length ≤ 100
    rw [List.length_append]
    show C.ch.length + 1 ≤ 100
    omega
  · show lastM (C.ch ++ [_]) ≤ C.last + 1
    rw [lastM_snoc]
    exact Int.le_refl _
  · show C.last ≤ (J'.held.length : Int)
    rw [hlen]; omega
/-- BEHIND A CRASH: all but the round -/
theorem CInv.crash {C : Crd} {B : Int} (I : CInv C B) (hB : B + 4 ≤ widest) (keep : Int) :
    ∃ J' D', openM (C.D.crash keep) C.J.ring = .ok (J', D') ∧ J'.ring = C.J.ring ∧ J'.held = C.J.held ∧ startC C.f J' D' = { C with J := J', D := D', R := rnd0, marked := 0 } ∧ CInv (startC C.f J' D') (B + 2) := by
  obtain ⟨p, p1, p2, _, ho, Ic⟩ := I.J.crash (by omega) (keeps keep)
  have hp : p = C.J.held.length := by omega
  subst hp
  rw [List.take_length] at ho Ic
  refine ⟨_, _, ho, rfl, rfl, ?_, ?_⟩
  · unfold startC
    dsimp only
    rw [← I.know]
  · unfold startC
    dsimp only
    rw [← I.know]
    have hl := I.last
    exact ⟨Ic, I.f4, I.know, I.vols, I.srt, I.few, I.lastc, hl, RI.zero hl.1, (fun h => nomatch h), (by decide : (0 : Int) ≤ 0), hl.1⟩
/-- a coordinator of an empty disk -/
theorem CInv.fresh {n ring : Nat} (h1 : 1 ≤ ring) (h2 : ring ≤ 512) (h3 : 2 + ring ≤ n) (h4 : n ≤ 1024) {l : List Int} {f : List Bool} (hf : newM l f0 = .ok f) :
    ∃ J D, openM (Dsk.new n) ring = .ok (J, D) ∧ J.ring = ring ∧ J.held = [] ∧ openC (Dsk.new n) ring l = .ok ⟨J, D, f, [], rnd0, 0, 0⟩ ∧ startC f J D = ⟨J, D, f, [], rnd0, 0, 0⟩ ∧ CInv ⟨J, D, f, [], rnd0, 0, 0⟩ 3 := by
  obtain ⟨ho, I⟩ := JInv.fresh h1 h2 h3 h4
  refine ⟨_, _, ho, rfl, rfl, ?_, rfl, ?_⟩
  · unfold openC
    rw [hf]
    dsimp only
    rw [ho]
    rfl
  · exact ⟨I, newM_length hf, rfl, (fun _ h => nomatch h), (fun _ h => nomatch h), Nat.zero_le _, (by decide : (0 : Int) ≤ 1), (by decide : (0 : Int) ≤ 0 ∧ (0 : Int) ≤ 0), RI.zero (Int.le_refl _), (fun h => nomatch h), (by decide : (0 : Int) ≤ 0 ∧ (0 : Int) ≤ 0)⟩
/-- who belonged at a round that was begun, and at its change, stays -/
theorem CInv.stays {C C' : Crd} {v : Int} {inn : Bool} (hf : C'.f = C.f) (hc : C'.ch = C.ch ∨ C'.ch = C.ch ++ [(C.last + 1, v, inn)]) {k : Int} (hk : k ≤ C.last) : C'.mem k = C.mem k := by
  unfold Crd.mem
  rw [hf]
  rcases hc with hc | hc
  · rw [hc]
  · rw [hc, atM_low (.inl (by dsimp only; omega))]
end Go.Proofs.YtleajkobmhhacaaGreatDoor
/- Contracts of functions of the given program, and plain laws on what they compute: parts of the proofs of laws. -/

namespace Go.Proofs.YtleajkobmhhacaaGreatDoor
open Go Go.GL

set_option maxHeartbeats 4000000 in
set_option maxRecDepth 10000 in
theorem qbegin_ok (p : Nat) (R : Rnd) (number : Int) (a : Option Addr) (n c : Nat) (l : List Int) (V : Assn) (hV : Up V) (hr : ∀ h, V h → readS a n 1 (l.map vI) h) (hn : n = l.length) (hs : n < 1000000) (h0 : R.number = 0) (h1 : R.latest < number) (hR : RightV l) :
    Triple G 88 [.pointer (some ⟨p, 0, none⟩), .int .i64 number, .slice a n c] [qrnd p R, V] (fun v M => ∃ x E, CmdsQ (R.start number l).1 x E ∧ v = .tuple #[x, .int .i64 0] ∧ M = E ++ [qrnd p (R.start number l).2, V]) := by
  refine Triple.enter Tryz.func88 rfl (by decide) rfl Tryz.ntmps88 rfl (fun F => ?_)
  have hE : ∀ {L}, V ∈ L → Ent L (readS a n 1 (l.map vI)) := fun m => Ent.mem m hV hr
  refine WC.open (M := [V, F]) (Ls := qrndL p R) II (fun x => ?_)
  unfold qrndL qrndC
  dsimp only [List.cons_append, List.nil_append]
  obtain ⟨hne, hnd, hrg⟩ := hR
  have hpos : 0 < l.length := List.length_pos_iff.2 hne
  have h1' : ¬ number ≤ R.latest := by omega
  repeat (first | refine GD ?_ | refine NW fun _ => ?_)
  refine WC.loop (σ := Nat) (fun k => k ≤ n)
    (fun k => [(0, .val (.pointer (some ⟨p, 0, none⟩))), (1, .val (.int .i64 number)), (2, .val (.slice a n c)), (22, .val (.int .i64 n)), (23, .val (.int .i64 k))])
    (fun _ => [blk p [.int .i64 R.number, .int .i64 R.latest, .slice x.1 R.vols.length x.2.1, .int .i64 R.phase, .slice x.2.2.1 R.vols.length x.2.2.2, .int .i64 R.left, .bool R.marked, .int .i64 R.done, .bool R.complete] rqT, V, F]) (fun k => n - k) 0 (Nat.zero_le _) ⟨rfl, rfl, rfl, rfl, rfl, trivial⟩ II ?_
  intro k hk
  by_cases hlt : k < n
  · have hlk : k < l.length := by omega
    refine WC.fact (Ent.some (hE MM) (by omega)) ?_
    rintro ⟨b2, off, rfl⟩
    have hel : ∀ i (h : i < l.length), (l.map vI)[i * 1]? = some (vI l[i]) := fun i h => int_at h
    have hrk := hrg l[k] (List.getElem_mem hlk)
    repeat (first | refine GD ?_ | refine NW fun _ => ?_)
    refine WC.loop (σ := Nat) (fun j => j ≤ k)
      (fun j => [(0, .val (.pointer (some ⟨p, 0, none⟩))), (1, .val (.int .i64 number)), (2, .val (.slice (some ⟨b2, off, none⟩) n c)), (8, .val (.int .i64 k)), (9, .val (.int .i64 j)), (22, .val (.int .i64 n)), (23, .val (.int .i64 k))])
      (fun _ => [blk p [.int .i64 R.number, .int .i64 R.latest, .slice x.1 R.vols.length x.2.1, .int .i64 R.phase, .slice x.2.2.1 R.vols.length x.2.2.2, .int .i64 R.left, .bool R.marked, .int .i64 R.done, .bool R.complete] rqT, V, F]) (fun j => k - j) 0 (Nat.zero_le _) ⟨rfl, rfl, rfl, rfl, rfl, rfl, rfl, trivial⟩ II ?_
    intro j hj
    by_cases hjk : j < k
    · have hjl : j < l.length := by omega
      have hdif : ¬ l[j] = l[k] := fun e => by
        have := (List.getElem_inj hnd).1 e
        omega
      repeat (first | refine GD ?_ | refine NW fun _ => ?_)
      refine RD 9 9 (_) ?_
      refine WP 0 ?_
      refine WP 1 ?_
      refine WP 2 ?_
      refine VL 3 (vI l[j]) rfl rfl rfl rfl (.inl ⟨rfl, Ent.elem (i := j * 1) (hE MM) rfl (hel j hjl)⟩) ?_
      refine WP 4 ?_
      refine WP 5 ?_
      refine WP 6 ?_
      refine VL 7 (vI l[k]) rfl rfl rfl rfl (.inl ⟨rfl, Ent.elem (i := k * 1) (hE MM) rfl (hel k hlk)⟩) ?_
      refine WP 8 ?_
      rw [decide_eq_false hdif]
      refine DN ?_
      repeat (first | refine GD ?_ | refine NW fun _ => ?_)
      exact ⟨j + 1, by omega, by omega, ⟨rfl, rfl, rfl, rfl, rfl, rfl, rfl, trivial⟩, Imp.refl _⟩
    have hel2 := hel k hlk
    generalize l[k] = v at *
    have hv0 : ¬ v < 0 := by omega
    have hv3 : ¬ 3 < v := by omega
    repeat (first | refine GD ?_ | refine NW fun _ => ?_)
    refine WL.step rfl (OP.load1 (v := vI v) rfl rfl rfl rfl (Ent.elem (i := k * 1) (hE MM) rfl hel2) rfl rfl ?_)
    repeat (first | refine GD ?_ | refine NW fun _ => ?_)
    refine WL.guardT rfl rfl rfl rfl (OP.load1 (v := vI v) rfl rfl rfl rfl (Ent.elem (i := k * 1) (hE MM) rfl hel2) rfl rfl ?_)
    repeat (first | refine GD ?_ | refine NW fun _ => ?_)
    exact ⟨k + 1, by omega, by omega, ⟨rfl, rfl, rfl, rfl, rfl, trivial⟩, Imp.refl _⟩
  have hpn : ¬ (n : Int) = 0 := by omega
  have hall : allOne (l.map vI) = true := by
    clear hne hnd hrg hpos hn hr hE
    induction l with
    | nil => rfl
    | cons x r ih => simpa [vI, allOne, one] using ih
  repeat (first | refine GD ?_ | refine NW fun _ => ?_)
  refine WL.step rfl (OP.lit0 (size := 1) rfl rfl rfl rfl rfl rfl (fun b => ?_))
  repeat refine GS ?_
  refine WL.step rfl (OP.append rfl rfl rfl rfl rfl rfl rfl rfl rfl (show Imp _ (ownS (some ⟨b, 0, none⟩) 0 0 3 1 [] :: _) from P1) (hE MM) hall (by omega) (by omega) rfl rfl (fun a2 cap2 => ?_))
  rw [Nat.zero_add, List.nil_append]
  repeat (first | refine GD ?_ | refine NW fun _ => ?_)
  have hen := qenter_ok p ({ R with number := number, latest := number, marked := false, vols := l } : Rnd) 1 a2 cap2 (.slice x.2.2.1 R.vols.length x.2.2.2) (by dsimp only; omega)
  dsimp only at hen
  rw [← hn] at hen
  refine WL.step rfl (OP.call (pre := [blk p _ rqT, ownS a2 n cap2 3 1 (l.map vI)]) rfl rfl hen PS rfl rfl ?_)
  rintro v _ ⟨E, hE2, rfl⟩
  repeat (first | refine GD ?_ | refine NW fun _ => ?_)
  refine ret2 rfl rfl ⟨E ++ [qrnd p (R.start number l).2, V], ⟨v, E, hE2, rfl, rfl⟩, ?_⟩
  rw [List.append_assoc, List.append_assoc]
  exact Imp.refl _
end Go.Proofs.YtleajkobmhhacaaGreatDoor
/- Contracts of functions of the given program, and plain laws on what they compute: parts of the proofs of laws. -/

namespace Go.Proofs.YtleajkobmhhacaaGreatDoor
open Go Go.GL

set_option maxHeartbeats 4000000 in
set_option maxRecDepth 10000 in
theorem qtick_ok (p : Nat) (R : Rnd) (hs : R.vols.length < 1000000) (hl : 0 ≤ R.left ∧ R.left ≤ 6) (hp : R.number ≠ 0 → 1 ≤ R.phase ∧ R.phase ≤ 3) :
    Triple G 26 [.pointer (some ⟨p, 0, none⟩)] [qrnd p R] (fun v M => ∃ E, CmdsQ (tickR R).1 v E ∧ M = E ++ [qrnd p (tickR R).2]) := by
  refine Triple.enter Tryz.func26 rfl (by decide) rfl Tryz.ntmps26 rfl (fun F => ?_)
  have hdef : tickR R = if R.number = 0 then ([], R) else if 0 < R.left - 1 then ([], { R with left := R.left - 1 }) else if R.phase ≠ 3 then ({ R with left := R.left - 1 } : Rnd).enter 3 else (tellL R, { R with left := 6 }) := rfl
  refine WC.open (M := [F]) (Ls := qrndL p R) II (fun x => ?_)
  by_cases h0 : R.number = 0
  · rw [if_pos h0] at hdef
    rw [hdef]
    unfold qrndL qrndC
    dsimp only [List.cons_append, List.nil_append]
    repeat (first | refine GD ?_ | refine NW fun _ => ?_)
    exact ret1 rfl ⟨[ownS none 0 0 cqT 3 []] ++ [qrnd p R], ⟨_, ⟨none, 0, rfl, rfl⟩, rfl⟩, Imp.trans (qrndFold p R x) (Imp.nilS _ _)⟩
  rw [if_neg h0] at hdef
  obtain ⟨hp1, hp3⟩ := hp h0
  unfold qrndL qrndC
  dsimp only [List.cons_append, List.nil_append]
  by_cases h1 : 0 < R.left - 1
  · rw [if_pos h1] at hdef
    rw [hdef]
    repeat (first | refine GD ?_ | refine NW fun _ => ?_)
    refine ret1 rfl ⟨[ownS none 0 0 cqT 3 []] ++ [qrnd p { R with left := R.left - 1 }], ⟨_, ⟨none, 0, rfl, rfl⟩, rfl⟩, ?_⟩
    exact Imp.trans (qrndFold p { R with left := R.left - 1 } x) (Imp.nilS _ _)
  rw [if_neg h1] at hdef
  by_cases h2 : R.phase = 3
  rotate_left
  · rw [if_pos h2] at hdef
    rw [hdef]
    have hen := qenter_ok p { R with left := R.left - 1 } 3 x.1 x.2.1 (.slice x.2.2.1 R.vols.length x.2.2.2) hs
    dsimp only at hen
    repeat (first | refine GD ?_ | refine NW fun _ => ?_)
    refine WL.step rfl (OP.call (pre := [blk p _ rqT, ownS x.1 R.vols.length x.2.1 3 1 (R.vols.map vI)]) rfl rfl hen PS rfl rfl ?_)
    rintro v _ ⟨E, hE, rfl⟩
    repeat (first | refine GD ?_ | refine NW fun _ => ?_)
    refine ret1 rfl ⟨_, ⟨E, hE, rfl⟩, ?_⟩
    rw [List.append_assoc, List.append_assoc]
    exact Imp.appL II _
  · rw [if_neg (not_not_intro h2)] at hdef
    rw [hdef]
    have htl := qtell_rt p { R with left := 6 } hs
    repeat (first | refine GD ?_ | refine NW fun _ => ?_)
    refine WL.imp (M := [qrnd p { R with left := 6 }, F]) (qrndFold p { R with left := 6 } x) ?_
    refine WL.step rfl (OP.callRT rfl rfl htl (Ent.at (up_qrnd _ _) MM) rfl rfl ?_)
    intro v E hE
    repeat (first | refine GD ?_ | refine NW fun _ => ?_)
    refine ret1 rfl ⟨E ++ [qrnd p { R with left := 6 }], ⟨E, hE, rfl⟩, ?_⟩
    rw [List.append_assoc]
    exact Imp.refl _
end Go.Proofs.YtleajkobmhhacaaGreatDoor
/- Contracts of functions of the given program, and plain laws on what they compute: parts of the proofs of laws. -/

namespace Go.Proofs.YtleajkobmhhacaaGreatDoor
open Go Go.GL

def QAnswer (p : Nat) (R : Rnd) (c : Cmd) (v : Value) (M : List Assn) : Prop := match answerR R c with
  | .ok (cs, R') => ∃ x E, CmdsQ cs x E ∧ v = .tuple #[x, .int .i64 0] ∧ M = E ++ [qrnd p R']
  | .error e => v = .tuple #[.slice none 0 0, .int .i64 e] ∧ M = [qrnd p R]
theorem okC_set {R : Rnd} {vol : Int} {j : Nat} (hj : j < R.vols.length) (hnd : R.vols.Nodup) (hv : R.vols[j] = vol) : setMany (okC R) (j * 1) [.bool true] = some (okC { R with ans := setA R.ans vol }) := by
  rw [Nat.mul_one, setMany_one _ (by unfold okC; rw [List.length_map]; exact hj)]
  congr 1
  unfold okC
  dsimp only
  refine List.ext_getElem (by simp) (fun i h1 h2 => ?_)
  rw [List.getElem_set]
  simp only [List.getElem_map]
  have hi : i < R.vols.length := by simpa using h2
  by_cases e : j = i
  · subst e
    rw [if_pos rfl]
    unfold setA
    rw [if_pos hv]
  · rw [if_neg e]
    unfold setA
    rw [if_neg]
    intro h
    exact e ((List.getElem_inj hnd).1 (hv.trans h.symm))
set_option maxHeartbeats 8000000 in
set_option maxRecDepth 10000 in
theorem qanswer_ok (p : Nat) (R : Rnd) (c : Cmd) (hs : R.vols.length < 1000000) (hp : R.number ≠ 0 → 1 ≤ R.phase ∧ R.phase ≤ 3) (hnd : R.number ≠ 0 → R.vols.Nodup) :
    Triple G 91 [.pointer (some ⟨p, 0, none⟩), .agg (encCmd c).toArray] [qrnd p R] (QAnswer p R c) := by
  refine Triple.enter Tryz.func91 rfl (by decide) rfl Tryz.ntmps91 rfl (fun F => ?_)
  obtain ⟨kd, vol, num⟩ := c
  have hdef : answerR R (kd, vol, num) = if R.number = 0 ∨ num ≠ R.number ∨ kd ≠ R.phase then .error 10 else if vol ∉ R.vols then .error 12
    else if lacksM { R with ans := setA R.ans vol } ≠ [] then .ok ([], { R with ans := setA R.ans vol }) else .ok (nextR { R with ans := setA R.ans vol }) := rfl
  rw [show encCmd (kd, vol, num) = [.int .i64 kd, .int .i64 vol, .int .i64 num] from rfl]
  refine WC.open (M := [F]) (Ls := qrndL p R) II (fun x => ?_)
  unfold qrndL qrndC
  dsimp only [List.cons_append, List.nil_append]
  repeat (first | refine GD ?_ | refine NW fun _ => ?_)
  rename_i bc
  by_cases h0 : R.number = 0
  · have hop : answerR R (kd, vol, num) = .error 10 := by rw [hdef, if_pos (.inl h0)]
    refine RD 23 23 (_) ?_
    refine WP 0 ?_
    refine WP 1 ?_
    refine WP 2 ?_
    refine VV 3 ?_
    refine WP 4 ?_
    rw [decide_eq_true h0]
    refine WP 5 ?_
    refine WP 6 ?_
    refine VV 7 ?_
    refine WP 8 ?_
    refine WP 9 ?_
    refine WP 10 ?_
    refine VV 11 ?_
    refine WP 12 ?_
    refine WP 13 ?_
    refine WP 14 ?_
    refine WP 15 ?_
    refine VV 16 ?_
    refine WP 17 ?_
    refine WP 18 ?_
    refine WP 19 ?_
    refine VV 20 ?_
    refine WP 21 ?_
    refine WP 22 ?_
    refine DN ?_
    repeat (first | refine GD ?_ | refine NW fun _ => ?_)
    refine ret2 rfl rfl ⟨[qrnd p R], ?_, Imp.trans II (qrndFold p R x)⟩
    unfold QAnswer
    rw [hop]
    exact ⟨rfl, rfl⟩
  by_cases h1 : num = R.number
  rotate_left
  · have hop : answerR R (kd, vol, num) = .error 10 := by rw [hdef, if_pos (.inr (.inl h1))]
    refine RD 23 23 (_) ?_
    refine WP 0 ?_
    refine WP 1 ?_
    refine WP 2 ?_
    refine VV 3 ?_
    refine WP 4 ?_
    rw [decide_eq_false h0]
    refine WP 5 ?_
    refine WP 6 ?_
    refine VV 7 ?_
    refine WP 8 ?_
    refine WP 9 ?_
    refine WP 10 ?_
    refine VV 11 ?_
    refine WP 12 ?_
    rw [decide_eq_false h1]
    refine WP 13 ?_
    refine WP 14 ?_
    refine WP 15 ?_
    refine VV 16 ?_
    refine WP 17 ?_
    refine WP 18 ?_
    refine WP 19 ?_
    refine VV 20 ?_
    refine WP 21 ?_
    refine WP 22 ?_
    refine DN ?_
    repeat (first | refine GD ?_ | refine NW fun _ => ?_)
    refine ret2 rfl rfl ⟨[qrnd p R], ?_, Imp.trans II (qrndFold p R x)⟩
    unfold QAnswer
    rw [hop]
    exact ⟨rfl, rfl⟩
  by_cases h2 : kd = R.phase
  rotate_left
  · have hop : answerR R (kd, vol, num) = .error 10 := by rw [hdef, if_pos (.inr (.inr h2))]
    refine RD 23 23 (_) ?_
    refine WP 0 ?_
    refine WP 1 ?_
    refine WP 2 ?_
    refine VV 3 ?_
    refine WP 4 ?_
    rw [decide_eq_false h0]
    refine WP 5 ?_
    refine WP 6 ?_
    refine VV 7 ?_
    refine WP 8 ?_
    refine WP 9 ?_
    refine WP 10 ?_
    refine VV 11 ?_
    refine WP 12 ?_
    rw [decide_eq_true h1]
    refine WP 13 ?_
    refine WP 14 ?_
    refine WP 15 ?_
    refine VV 16 ?_
    refine WP 17 ?_
    refine WP 18 ?_
    refine WP 19 ?_
    refine VV 20 ?_
    refine WP 21 ?_
    rw [decide_eq_false h2]
    refine WP 22 ?_
    refine DN ?_
    repeat (first | refine GD ?_ | refine NW fun _ => ?_)
    refine ret2 rfl rfl ⟨[qrnd p R], ?_, Imp.trans II (qrndFold p R x)⟩
    unfold QAnswer
    rw [hop]
    exact ⟨rfl, rfl⟩
  rw [if_neg (by rintro (h | h | h); exact h0 h; exact h h1; exact h h2)] at hdef
  refine RD 23 23 (_) ?_
  refine WP 0 ?_
  refine WP 1 ?_
  refine WP 2 ?_
  refine VV 3 ?_
  refine WP 4 ?_
  rw [decide_eq_false h0]
  refine WP 5 ?_
  refine WP 6 ?_
  refine VV 7 ?_
  refine WP 8 ?_
  refine WP 9 ?_
  refine WP 10 ?_
  refine VV 11 ?_
  refine WP 12 ?_
  rw [decide_eq_true h1]
  refine WP 13 ?_
  refine WP 14 ?_
  refine WP 15 ?_
  refine VV 16 ?_
  refine WP 17 ?_
  refine WP 18 ?_
  refine WP 19 ?_
  refine VV 20 ?_
  refine WP 21 ?_
  rw [decide_eq_true h2]
  refine WP 22 ?_
  refine DN ?_
  repeat (first | refine GD ?_ | refine NW fun _ => ?_)
  refine WC.loop (σ := Nat × Int) (fun s => s.1 ≤ R.vols.length ∧ ((s.2 = -1 ∧ ∀ j (h : j < R.vols.length), j < s.1 → R.vols[j] ≠ vol) ∨ (∃ j : Nat, ∃ h : j < R.vols.length, s.2 = j ∧ R.vols[j] = vol)))
    (fun s => [(0, .val (.pointer (some ⟨p, 0, none⟩))), (3, .val (.pointer (some ⟨bc, 0, none⟩))), (6, .val (.int .i64 s.2)), (35, .val (.int .i64 R.vols.length)), (36, .val (.int .i64 s.1))])
    (fun _ => [blk bc [.int .i64 kd, .int .i64 vol, .int .i64 num] cqT, blk p [.int .i64 R.number, .int .i64 R.latest, .slice x.1 R.vols.length x.2.1, .int .i64 R.phase, .slice x.2.2.1 R.vols.length x.2.2.2, .int .i64 R.left, .bool R.marked, .int .i64 R.done, .bool R.complete] rqT, ownS x.1 R.vols.length x.2.1 3 1 (R.vols.map vI), ownS x.2.2.1 R.vols.length x.2.2.2 4 1 (okC R), F]) (fun s => R.vols.length - s.1) (0, -1) ⟨Nat.zero_le _, .inl ⟨rfl, fun j h hj => by omega⟩⟩ ⟨rfl, rfl, rfl, rfl, rfl, trivial⟩ II ?_
  rintro ⟨k, at_⟩ ⟨hk, hat⟩
  dsimp only at hk hat ⊢
  obtain ⟨va, vc, oa, oc⟩ := x
  dsimp only
  by_cases hlt : k < R.vols.length
  · refine WC.fact (Ent.some (Ent.own (T := 3) MM) (by omega)) ?_
    rintro ⟨b, off, rfl⟩
    by_cases hev : R.vols[k] = vol
    · repeat (first | refine GD ?_ | refine NW fun _ => ?_)
      refine RD 10 10 (_) ?_
      refine WP 0 ?_
      refine WP 1 ?_
      refine WP 2 ?_
      refine VV 3 ?_
      refine WP 4 ?_
      refine WP 5 ?_
      refine VL 6 (vI R.vols[k]) rfl rfl rfl rfl (.inl ⟨rfl, Ent.elem (i := k * 1) (Ent.own (T := 3) MM) rfl (int_at hlt)⟩) ?_
      refine WP 7 ?_
      refine VV 8 ?_
      refine WP 9 ?_
      rw [decide_eq_true hev]
      refine DN ?_
      repeat (first | refine GD ?_ | refine NW fun _ => ?_)
      exact ⟨(k + 1, k), ⟨by dsimp only; omega, .inr ⟨k, hlt, rfl, hev⟩⟩, by dsimp only; omega, ⟨rfl, rfl, rfl, rfl, rfl, trivial⟩, II⟩
    · repeat (first | refine GD ?_ | refine NW fun _ => ?_)
      refine RD 10 10 (_) ?_
      refine WP 0 ?_
      refine WP 1 ?_
      refine WP 2 ?_
      refine VV 3 ?_
      refine WP 4 ?_
      refine WP 5 ?_
      refine VL 6 (vI R.vols[k]) rfl rfl rfl rfl (.inl ⟨rfl, Ent.elem (i := k * 1) (Ent.own (T := 3) MM) rfl (int_at hlt)⟩) ?_
      refine WP 7 ?_
      refine VV 8 ?_
      refine WP 9 ?_
      rw [decide_eq_false hev]
      refine DN ?_
      repeat (first | refine GD ?_ | refine NW fun _ => ?_)
      refine ⟨(k + 1, at_), ⟨by dsimp only; omega, ?_⟩, by dsimp only; omega, ⟨rfl, rfl, rfl, rfl, rfl, trivial⟩, II⟩
      rcases hat with ⟨e, h⟩ | h
      · refine .inl ⟨e, fun j hj hjk => ?_⟩
        by_cases ejk : j = k
        · subst ejk; exact hev
        · exact h j hj (by dsimp only at hjk; omega)
      · exact .inr h
  have hke : k = R.vols.length := by omega
  subst hke
  rcases hat with ⟨rfl, hno⟩ | ⟨j, hj, rfl, hev⟩
  · have hni : vol ∉ R.vols := fun hm => by
      obtain ⟨j, hj, e⟩ := List.getElem_of_mem hm
      exact hno j hj hj e
    have hop : answerR R (kd, vol, num) = .error 12 := by rw [hdef, if_pos hni]
    clear hno hlt
    repeat (first | refine GD ?_ | refine NW fun _ => ?_)
    refine ret2 rfl rfl ⟨[qrnd p R], ?_, Imp.trans II (qrndFold p R (va, vc, oa, oc))⟩
    unfold QAnswer
    rw [hop]
    exact ⟨rfl, rfl⟩
  have hin : vol ∈ R.vols := hev ▸ List.getElem_mem hj
  rw [if_neg (not_not_intro hin)] at hdef
  have hset := okC_set hj (hnd h0) hev
  have htl := qtell_rt p { R with ans := setA R.ans vol } hs
  have hen1 := fun va vc w => qenter_ok p { R with ans := setA R.ans vol } 2 va vc w hs
  have hen2 := fun va vc w => qenter_ok p { R with ans := setA R.ans vol, marked := true } 3 va vc w hs
  dsimp only at hen1 hen2
  obtain ⟨hp1, hp3⟩ := hp h0
  clear hlt hev
  repeat (first | refine GD ?_ | refine NW fun _ => ?_)
  refine WL.fact (Ent.some (Ent.own (T := 4) (a := oa) MM) (by omega)) ?_
  rintro ⟨b2, off2, rfl⟩
  repeat refine GS ?_
  refine WL.step rfl (OP.storeO (vs := [.bool true]) (i := j * 1) rfl rfl rfl rfl rfl rfl rfl P1 hset rfl ?_)
  repeat (first | refine GD ?_ | refine NW fun _ => ?_)
  refine WL.imp (M := [qrnd p { R with ans := setA R.ans vol }, F]) (Imp.trans (show Imp _ (blk p (qrndC { R with ans := setA R.ans vol } (va, vc, some ⟨b2, off2, none⟩, oc)) rqT :: ownS va R.vols.length vc 3 1 (R.vols.map vI) :: ownS (some ⟨b2, off2, none⟩) R.vols.length oc 4 1 (okC { R with ans := setA R.ans vol }) :: [F]) from II) (qrndFold p { R with ans := setA R.ans vol } (va, vc, some ⟨b2, off2, none⟩, oc))) ?_
  refine WL.step rfl (OP.callRT rfl rfl htl (Ent.at (up_qrnd _ _) MM) rfl rfl ?_)
  rintro _ _ ⟨aL, cL, rfl, rfl⟩
  have hll : (tellL { R with ans := setA R.ans vol }).length = (lacksM { R with ans := setA R.ans vol }).length := List.length_map ..
  have hlr : (lacksM { R with ans := setA R.ans vol }).length ≤ R.vols.length := List.length_filter_le _ _
  rw [hll]
  generalize hLK : lacksM { R with ans := setA R.ans vol } = lk at *
  by_cases h4 : lk = []
  rotate_left
  · have hpos : 0 < lk.length := List.length_pos_iff.2 h4
    rw [if_pos h4] at hdef
    repeat (first | refine GD ?_ | refine NW fun _ => ?_)
    refine ret2 rfl rfl ⟨[ownS none 0 0 cqT 3 []] ++ [qrnd p { R with ans := setA R.ans vol }], ?_, Imp.trans (Imp.nilS _ _) II⟩
    unfold QAnswer
    rw [hdef]
    exact ⟨_, _, ⟨none, 0, rfl, rfl⟩, rfl, rfl⟩
  rw [if_neg (not_not_intro h4)] at hdef
  subst h4
  have hnx : nextR { R with ans := setA R.ans vol } = if R.phase = 2 then ({ R with ans := setA R.ans vol, marked := true } : Rnd).enter 3 else if R.phase = 1 then ({ R with ans := setA R.ans vol } : Rnd).enter 2 else ([], { R with ans := setA R.ans vol, done := R.number, complete := R.marked, number := 0, vols := [] }) := rfl
  refine WL.open (M := [F]) (Ls := qrndL p { R with ans := setA R.ans vol }) II (fun y => ?_)
  unfold qrndL qrndC
  dsimp only [List.cons_append, List.nil_append]
  obtain ⟨va', vc', oa', oc'⟩ := y
  dsimp only
  have hcase : R.phase = 2 ∨ R.phase = 1 ∨ R.phase = 3 := by omega
  rcases hcase with h | h | h
  · rw [if_pos h] at hnx
    repeat (first | refine GD ?_ | refine NW fun _ => ?_)
    refine WL.step rfl (OP.call (pre := [blk p _ rqT, ownS va' R.vols.length vc' 3 1 (R.vols.map vI)]) rfl rfl (hen2 va' vc' (.slice oa' R.vols.length oc')) PS rfl rfl ?_)
    rintro v _ ⟨E, hE, rfl⟩
    repeat (first | refine GD ?_ | refine NW fun _ => ?_)
    refine ret2 rfl rfl ⟨E ++ [qrnd p (({ R with ans := setA R.ans vol, marked := true } : Rnd).enter 3).2], ?_, ?_⟩
    rotate_left
    · rw [List.append_assoc, List.append_assoc]
      exact Imp.appL II _
    · unfold QAnswer
      rw [hdef, hnx]
      exact ⟨v, E, hE, rfl, rfl⟩
  · rw [if_neg (by omega), if_pos h] at hnx
    repeat (first | refine GD ?_ | refine NW fun _ => ?_)
    refine WL.step rfl (OP.call (pre := [blk p _ rqT, ownS va' R.vols.length vc' 3 1 (R.vols.map vI)]) rfl rfl (hen1 va' vc' (.slice oa' R.vols.length oc')) PS rfl rfl ?_)
    rintro v _ ⟨E, hE, rfl⟩
    repeat (first | refine GD ?_ | refine NW fun _ => ?_)
    refine ret2 rfl rfl ⟨E ++ [qrnd p (({ R with ans := setA R.ans vol } : Rnd).enter 2).2], ?_, ?_⟩
    rotate_left
    · rw [List.append_assoc, List.append_assoc]
      exact Imp.appL II _
    · unfold QAnswer
      rw [hdef, hnx]
      exact ⟨v, E, hE, rfl, rfl⟩
  · rw [if_neg (by omega), if_neg (by omega)] at hnx
    repeat (first | refine GD ?_ | refine NW fun _ => ?_)
    refine RD 13 20 (_) ?_
    refine WP 0 ?_
    refine WP 1 ?_
    refine WP 2 ?_
    refine WP 3 ?_
    refine WP 4 ?_
    refine WP 5 ?_
    refine VV 6 ?_
    refine WP 7 ?_
    refine WP 8 ?_
    refine WP 9 ?_
    refine VV 10 ?_
    refine WP 11 ?_
    refine WP 12 ?_
    refine WH.only 13 rfl rfl (by kernel_rfl) rfl (OP.store rfl rfl rfl rfl rfl rfl rfl UP rfl ⟨(fun h => nomatch h), ?_⟩)
    refine WP 14 ?_
    refine WP 15 ?_
    refine WH.only 16 rfl rfl (by kernel_rfl) rfl (OP.store rfl rfl rfl rfl rfl rfl rfl UP rfl ⟨(fun h => nomatch h), ?_⟩)
    refine WP 17 ?_
    refine WP 18 ?_
    refine WH.only 19 rfl rfl (by kernel_rfl) rfl (OP.store rfl rfl rfl rfl rfl rfl rfl UP rfl ⟨(fun h => nomatch h), ?_⟩)
    refine DN ?_
    repeat (first | refine GD ?_ | refine NW fun _ => ?_)
    refine ret2 rfl rfl ⟨[ownS none 0 0 cqT 3 []] ++ [qrnd p ({ R with ans := setA R.ans vol, done := R.number, complete := R.marked, number := 0, vols := [] } : Rnd)], ?_, ?_⟩
    · unfold QAnswer
      rw [hdef, hnx]
      exact ⟨_, _, ⟨none, 0, rfl, rfl⟩, rfl, rfl⟩
    · refine Imp.trans ?_ (Imp.nilS _ _)
      refine Imp.trans ?_ (qrndFold p ({ R with ans := setA R.ans vol, done := R.number, complete := R.marked, number := 0, vols := [] } : Rnd) (none, 0, none, 0))
      exact Imp.trans (Imp.nilS 3 1) (Imp.trans (Imp.nilS 4 1) II)
end Go.Proofs.YtleajkobmhhacaaGreatDoor
/- Contracts of functions of the given program, and plain laws on what they compute: parts of the proofs of laws. -/

namespace Go.Proofs.YtleajkobmhhacaaGreatDoor
open Go Go.GL

set_option maxRecDepth 10000 in
theorem rwrong_ok (v c : Int) (h : c ≠ 0) : Triple G 155 [.int .i64 v, .int .i64 c] [] (Fault roundT v c) := by
  refine Triple.enter Tryz.func155 rfl (by decide) rfl Tryz.ntmps155 rfl (fun F => ?_)
  repeat (first | refine GO ?_ | refine NW fun _ => ?_)
  refine WL.step rfl (OP.call rfl rfl (wrap_ok _ _ _ h) PS rfl rfl ?_)
  rintro v M ⟨b, rfl, rfl⟩
  repeat (first | refine GO ?_ | refine NW fun _ => ?_)
  exact ret1 rfl ⟨_, ⟨_, rfl, rfl⟩, Imp.refl _⟩
theorem ansO_zero (f : Int → Bool) (n : Int) : ∀ (mo : Option Nat) {N : List Assn}, Imp (ansO f n mo :: N) (ansO f 0 mo :: N)
  | none, _ => fun _ s => stars_head_mono (fun _ hk => ⟨hk.1, rfl⟩) s
  | some _, _ => Imp.refl _
def RBegin (p : Nat) (T : TypeId) (rest : List Value) (R : Rnd) (number : Int) (l : List Int) (v : Value) (M : List Assn) : Prop := match beginR R number l with
  | .ok (cs, R') => ∃ x E, CmdsA cs x E ∧ v = .tuple #[x, .nilIface] ∧ M = E ++ [rnd p T rest R']
  | .error c => ∃ e E, IsEr (some ([(roundT, number)], c)) e E ∧ v = .tuple #[.slice none 0 0, e] ∧ M = E ++ [rnd p T rest R]
set_option maxHeartbeats 4000000 in
set_option maxRecDepth 10000 in
theorem rbegin_ok (p : Nat) (T : TypeId) (rest : List Value) (R : Rnd) (number : Int) (a : Option Addr) (n c : Nat) (l : List Int) (V : Assn) (hV : Up V) (hr : ∀ h, V h → readS a n 1 (l.map vI) h) (hn : n = l.length) (hs : n < 1000000) :
    Triple G 85 [.pointer (some ⟨p, 0, none⟩), .int .i64 number, .slice a n c] [rnd p T rest R, V] (fun v M => ∃ M', RBegin p T rest R number l v M' ∧ M = M' ++ [V]) := by
  refine Triple.enter Tryz.func85 rfl (by decide) rfl Tryz.ntmps85 rfl (fun F => ?_)
  have hE : ∀ {L}, V ∈ L → Ent L (readS a n 1 (l.map vI)) := fun m => Ent.mem m hV hr
  refine WC.open (M := [V, F]) (Ls := rndL p T rest R) II (fun x => ?_)
  unfold rndL rndC
  dsimp only [List.cons_append, List.nil_append]
  have hbk : ∀ (N : List Assn), Imp (blk p (.int .i64 R.number :: .int .i64 R.latest :: .slice x.1 R.vols.length x.2.1 :: .int .i64 R.phase :: .map x.2.2 :: .int .i64 R.left :: .bool R.marked :: .int .i64 R.done :: .bool R.complete :: rest) T :: ownS x.1 R.vols.length x.2.1 3 1 (R.vols.map vI) :: ansO R.ans R.number x.2.2 :: N) (rnd p T rest R :: N) := fun N => rndFold p T rest R x
  have hdef : beginR R number l = if R.number ≠ 0 then .error 9 else if number ≤ R.latest then .error 10 else if ¬ RightV l then .error 1
    else .ok (({ R with number := number, latest := number, marked := false, vols := l } : Rnd).enter 1) := rfl
  by_cases h0 : R.number ≠ 0
  · have hop : beginR R number l = .error 9 := by rw [hdef, if_pos h0]
    repeat (first | refine GD ?_ | refine NW fun _ => ?_)
    refine WL.step rfl (OP.call (pre := []) rfl rfl (rwrong_ok number 9 (by decide)) PS rfl rfl ?_)
    intro v M hF
    obtain ⟨M', h1, h2⟩ := hF.isEr
    repeat (first | refine GD ?_ | refine NW fun _ => ?_)
    refine ret2 rfl rfl ⟨(M' ++ [rnd p T rest R]) ++ [V], ⟨M' ++ [rnd p T rest R], ?_, rfl⟩, ?_⟩
    · unfold RBegin
      rw [hop]
      exact ⟨v, M', h1, rfl, rfl⟩
    · rw [List.append_assoc, List.append_assoc]
      refine (Imp.app h2 _).trans (Imp.appL ?_ _)
      exact Imp.trans II (hbk [V, F])
  rw [if_neg h0] at hdef
  have h0 : R.number = 0 := Decidable.not_not.1 h0
  by_cases h1 : number ≤ R.latest
  · have hop : beginR R number l = .error 10 := by rw [hdef, if_pos h1]
    repeat (first | refine GD ?_ | refine NW fun _ => ?_)
    refine WL.step rfl (OP.call (pre := []) rfl rfl (rwrong_ok number 10 (by decide)) PS rfl rfl ?_)
    intro v M hF
    obtain ⟨M', h1, h2⟩ := hF.isEr
    repeat (first | refine GD ?_ | refine NW fun _ => ?_)
    refine ret2 rfl rfl ⟨(M' ++ [rnd p T rest R]) ++ [V], ⟨M' ++ [rnd p T rest R], ?_, rfl⟩, ?_⟩
    · unfold RBegin
      rw [hop]
      exact ⟨v, M', h1, rfl, rfl⟩
    · rw [List.append_assoc, List.append_assoc]
      refine (Imp.app h2 _).trans (Imp.appL ?_ _)
      exact Imp.trans II (hbk [V, F])
  rw [if_neg h1] at hdef
  repeat (first | refine GD ?_ | refine NW fun _ => ?_)
  refine WL.step rfl (OP.callRO rfl rfl (rright_ro a n c l hn hs) (hE MM) rfl rfl ?_)
  by_cases h2 : RightV l
  rotate_left
  · have hop : beginR R number l = .error 1 := by rw [hdef, if_pos h2]
    rw [decide_eq_false h2]
    repeat (first | refine GD ?_ | refine NW fun _ => ?_)
    refine WL.step rfl (OP.call (pre := []) rfl rfl (rwrong_ok number 1 (by decide)) PS rfl rfl ?_)
    intro v M hF
    obtain ⟨M', h1, h2⟩ := hF.isEr
    repeat (first | refine GD ?_ | refine NW fun _ => ?_)
    refine ret2 rfl rfl ⟨(M' ++ [rnd p T rest R]) ++ [V], ⟨M' ++ [rnd p T rest R], ?_, rfl⟩, ?_⟩
    · unfold RBegin
      rw [hop]
      exact ⟨v, M', h1, rfl, rfl⟩
    · rw [List.append_assoc, List.append_assoc]
      refine (Imp.app h2 _).trans (Imp.appL ?_ _)
      exact Imp.trans II (hbk [V, F])
  rw [if_neg (not_not_intro h2)] at hdef
  rw [decide_eq_true h2]
  have hen := fun x => renter_ok p T rest ({ R with number := number, latest := number, marked := false, vols := l } : Rnd) 1 x (by dsimp only; omega)
  generalize ({ R with number := number, latest := number, marked := false, vols := l } : Rnd).enter 1 = er at *
  obtain ⟨cs, R'⟩ := er
  dsimp only at hen
  repeat (first | refine GD ?_ | refine NW fun _ => ?_)
  refine WL.step rfl (OP.callRT rfl rfl (iclone_rt a n c l hn hs) (hE MM) rfl rfl ?_)
  rintro _ _ ⟨a2, cap2, rfl, rfl⟩
  repeat (first | refine GD ?_ | refine NW fun _ => ?_)
  have hen2 := hen (a2, cap2, x.2.2)
  unfold rndC at hen2
  dsimp only [List.cons_append, List.nil_append] at hen2
  refine WL.step rfl (OP.call (pre := [blk p _ T, ownS a2 l.length cap2 3 1 (l.map vI)]) rfl rfl hen2 PS rfl rfl ?_)
  rintro v _ ⟨E, hC, rfl⟩
  repeat (first | refine GD ?_ | refine NW fun _ => ?_)
  refine ret2 rfl rfl ⟨(E ++ [rnd p T rest R']) ++ [V], ⟨E ++ [rnd p T rest R'], ?_, rfl⟩, ?_⟩
  · unfold RBegin
    rw [hdef]
    exact ⟨v, E, hC, rfl, rfl⟩
  · rw [List.append_assoc, List.append_assoc, List.append_assoc]
    exact Imp.appL II _
set_option maxHeartbeats 4000000 in
set_option maxRecDepth 10000 in
theorem rnext_ok (p : Nat) (T : TypeId) (rest : List Value) (R : Rnd) (hs : R.vols.length < 1000000) (hp : 1 ≤ R.phase ∧ R.phase ≤ 3) :
    Triple G 162 [.pointer (some ⟨p, 0, none⟩)] [rnd p T rest R] (fun v M => ∃ E, CmdsA (nextR R).1 v E ∧ M = E ++ [rnd p T rest (nextR R).2]) := by
  refine Triple.enter Tryz.func162 rfl (by decide) rfl Tryz.ntmps162 rfl (fun F => ?_)
  have hdef : nextR R = if R.phase = 2 then ({ R with marked := true } : Rnd).enter 3 else if R.phase = 1 then R.enter 2 else ([], { R with done := R.number, complete := R.marked, number := 0, vols := [] }) := rfl
  refine WC.open (M := [F]) (Ls := rndL p T rest R) II (fun x => ?_)
  unfold rndL rndC
  dsimp only [List.cons_append, List.nil_append]
  have hcase : R.phase = 2 ∨ R.phase = 1 ∨ R.phase = 3 := by omega
  rcases hcase with h | h | h
  · rw [if_pos h] at hdef
    rw [hdef]
    have hen := renter_ok p T rest ({ R with marked := true } : Rnd) 3 x hs
    unfold rndC at hen
    dsimp only [List.cons_append, List.nil_append] at hen
    repeat (first | refine GD ?_ | refine NW fun _ => ?_)
    rw [show R.phase + 1 = 3 by omega]
    refine WL.step rfl (OP.call (pre := [blk p _ T, ownS x.1 R.vols.length x.2.1 3 1 (R.vols.map vI)]) rfl rfl hen PS rfl rfl ?_)
    rintro v _ ⟨E, hC, rfl⟩
    repeat (first | refine GD ?_ | refine NW fun _ => ?_)
    refine ret1 rfl ⟨_, ⟨E, hC, rfl⟩, ?_⟩
    rw [List.append_assoc, List.append_assoc]
    exact Imp.appL II _
  · rw [if_neg (by omega), if_pos h] at hdef
    rw [hdef]
    have hen := renter_ok p T rest R 2 x hs
    unfold rndC at hen
    dsimp only [List.cons_append, List.nil_append] at hen
    repeat (first | refine GD ?_ | refine NW fun _ => ?_)
    rw [show R.phase + 1 = 2 by omega]
    refine WL.step rfl (OP.call (pre := [blk p _ T, ownS x.1 R.vols.length x.2.1 3 1 (R.vols.map vI)]) rfl rfl hen PS rfl rfl ?_)
    rintro v _ ⟨E, hC, rfl⟩
    repeat (first | refine GD ?_ | refine NW fun _ => ?_)
    refine ret1 rfl ⟨_, ⟨E, hC, rfl⟩, ?_⟩
    rw [List.append_assoc, List.append_assoc]
    exact Imp.appL II _
  · rw [if_neg (by omega), if_neg (by omega)] at hdef
    rw [hdef]
    have h3 : R.phase ≠ 2 := by omega
    have h4 : R.phase ≠ 1 := by omega
    repeat (first | refine GD ?_ | refine NW fun _ => ?_)
    refine RD 12 16 (_) ?_
    refine WP 0 ?_
    refine WP 1 ?_
    refine WP 2 ?_
    refine WP 3 ?_
    refine WP 4 ?_
    refine VV 5 ?_
    refine WP 6 ?_
    refine WP 7 ?_
    refine WP 8 ?_
    refine VV 9 ?_
    refine WP 10 ?_
    refine WP 11 ?_
    refine WH.only 12 rfl rfl (by kernel_rfl) rfl (OP.store rfl rfl rfl rfl rfl rfl rfl UP rfl ⟨(fun h => nomatch h), ?_⟩)
    refine WP 13 ?_
    refine WP 14 ?_
    refine WH.only 15 rfl rfl (by kernel_rfl) rfl (OP.store rfl rfl rfl rfl rfl rfl rfl UP rfl ⟨(fun h => nomatch h), ?_⟩)
    refine DN ?_
    repeat (first | refine GD ?_ | refine NW fun _ => ?_)
    refine ret1 rfl ⟨[ownS none 0 0 60 3 []] ++ [rnd p T rest ({ R with done := R.number, complete := R.marked, number := 0, vols := [] } : Rnd)], ⟨_, ⟨none, 0, rfl, rfl⟩, rfl⟩, ?_⟩
    refine Imp.trans ?_ (Imp.nilS _ _)
    refine Imp.trans ?_ (rndFold p T rest ({ R with done := R.number, complete := R.marked, number := 0, vols := [] } : Rnd) (none, 0, x.2.2))
    exact Imp.trans (Imp.nilS 3 1) (Imp.trans (show Imp _ (ansO R.ans R.number x.2.2 :: _) from P1) (Imp.trans (ansO_zero R.ans R.number x.2.2) II))
end Go.Proofs.YtleajkobmhhacaaGreatDoor
/- Contracts of functions of the given program, and plain laws on what they compute: parts of the proofs of laws. -/

namespace Go.Proofs.YtleajkobmhhacaaGreatDoor
open Go Go.GL

def RAnswer (p : Nat) (T : TypeId) (rest : List Value) (R : Rnd) (c : Cmd) (v : Value) (M : List Assn) : Prop := match answerR R c with
  | .ok (cs, R') => ∃ x E, CmdsA cs x E ∧ v = .tuple #[x, .nilIface] ∧ M = E ++ [rnd p T rest R']
  | .error e => ∃ er E, IsEr (some ([(roundT, c.2.2)], e)) er E ∧ v = .tuple #[.slice none 0 0, er] ∧ M = E ++ [rnd p T rest R]
set_option maxHeartbeats 4000000 in
set_option maxRecDepth 10000 in
theorem ranswer_ok (p : Nat) (T : TypeId) (rest : List Value) (R : Rnd) (c : Cmd) (hs : R.vols.length < 1000000) (hp : R.number ≠ 0 → 1 ≤ R.phase ∧ R.phase ≤ 3) :
    Triple G 89 [.pointer (some ⟨p, 0, none⟩), .agg (encCmd c).toArray] [rnd p T rest R] (RAnswer p T rest R c) := by
  refine Triple.enter Tryz.func89 rfl (by decide) rfl Tryz.ntmps89 rfl (fun F => ?_)
  obtain ⟨kd, vol, num⟩ := c
  have hdef : answerR R (kd, vol, num) = if R.number = 0 ∨ num ≠ R.number ∨ kd ≠ R.phase then .error 10 else if vol ∉ R.vols then .error 12
    else if lacksM { R with ans := setA R.ans vol } ≠ [] then .ok ([], { R with ans := setA R.ans vol }) else .ok (nextR { R with ans := setA R.ans vol }) := rfl
  rw [show encCmd (kd, vol, num) = [.int .i64 kd, .int .i64 vol, .int .i64 num] from rfl]
  refine WC.open (M := [F]) (Ls := rndL p T rest R) II (fun x => ?_)
  unfold rndL rndC
  dsimp only [List.cons_append, List.nil_append]
  repeat (first | refine GD ?_ | refine NW fun _ => ?_)
  rename_i bc
  by_cases h0 : R.number = 0
  · have hop : answerR R (kd, vol, num) = .error 10 := by rw [hdef, if_pos (.inl h0)]
    refine RD 24 24 (_) ?_
    refine WP 0 ?_
    refine WP 1 ?_
    refine WP 2 ?_
    refine VV 3 ?_
    refine WP 4 ?_
    rw [decide_eq_true h0]
    refine WP 5 ?_
    refine WP 6 ?_
    refine VV 7 ?_
    refine WP 8 ?_
    refine WP 9 ?_
    refine WP 10 ?_
    refine VV 11 ?_
    refine WP 12 ?_
    refine WP 13 ?_
    refine WP 14 ?_
    refine WP 15 ?_
    refine VV 16 ?_
    refine WP 17 ?_
    refine WP 18 ?_
    refine WP 19 ?_
    refine VV 20 ?_
    refine WP 21 ?_
    refine WP 22 ?_
    refine WP 23 ?_
    refine DN ?_
    repeat (first | refine GD ?_ | refine NW fun _ => ?_)
    refine WL.step rfl (OP.call (pre := []) rfl rfl (rwrong_ok num 10 (by decide)) PS rfl rfl ?_)
    intro v M hF
    obtain ⟨M', h1, h2⟩ := hF.isEr
    repeat (first | refine GD ?_ | refine NW fun _ => ?_)
    refine ret2 rfl rfl ⟨M' ++ [rnd p T rest R], ?_, ?_⟩
    · unfold RAnswer
      rw [hop]
      exact ⟨v, M', h1, rfl, rfl⟩
    · rw [List.append_assoc]
      refine (Imp.app h2 _).trans (Imp.appL ?_ _)
      exact Imp.trans II (rndFold p T rest R x)
  by_cases h1 : num = R.number
  rotate_left
  · have hop : answerR R (kd, vol, num) = .error 10 := by rw [hdef, if_pos (.inr (.inl h1))]
    refine RD 24 24 (_) ?_
    refine WP 0 ?_
    refine WP 1 ?_
    refine WP 2 ?_
    refine VV 3 ?_
    refine WP 4 ?_
    rw [decide_eq_false h0]
    refine WP 5 ?_
    refine WP 6 ?_
    refine VV 7 ?_
    refine WP 8 ?_
    refine WP 9 ?_
    refine WP 10 ?_
    refine VV 11 ?_
    refine WP 12 ?_
    rw [decide_eq_false h1]
    refine WP 13 ?_
    refine WP 14 ?_
    refine WP 15 ?_
    refine VV 16 ?_
    refine WP 17 ?_
    refine WP 18 ?_
    refine WP 19 ?_
    refine VV 20 ?_
    refine WP 21 ?_
    refine WP 22 ?_
    refine WP 23 ?_
    refine DN ?_
    repeat (first | refine GD ?_ | refine NW fun _ => ?_)
    refine WL.step rfl (OP.call (pre := []) rfl rfl (rwrong_ok num 10 (by decide)) PS rfl rfl ?_)
    intro v M hF
    obtain ⟨M', h1, h2⟩ := hF.isEr
    repeat (first | refine GD ?_ | refine NW fun _ => ?_)
    refine ret2 rfl rfl ⟨M' ++ [rnd p T rest R], ?_, ?_⟩
    · unfold RAnswer
      rw [hop]
      exact ⟨v, M', h1, rfl, rfl⟩
    · rw [List.append_assoc]
      refine (Imp.app h2 _).trans (Imp.appL ?_ _)
      exact Imp.trans II (rndFold p T rest R x)
  by_cases h2 : kd = R.phase
  rotate_left
  · have hop : answerR R (kd, vol, num) = .error 10 := by rw [hdef, if_pos (.inr (.inr h2))]
    refine RD 24 24 (_) ?_
    refine WP 0 ?_
    refine WP 1 ?_
    refine WP 2 ?_
    refine VV 3 ?_
    refine WP 4 ?_
    rw [decide_eq_false h0]
    refine WP 5 ?_
    refine WP 6 ?_
    refine VV 7 ?_
    refine WP 8 ?_
    refine WP 9 ?_
    refine WP 10 ?_
    refine VV 11 ?_
    refine WP 12 ?_
    rw [decide_eq_true h1]
    refine WP 13 ?_
    refine WP 14 ?_
    refine WP 15 ?_
    refine VV 16 ?_
    refine WP 17 ?_
    refine WP 18 ?_
    refine WP 19 ?_
    refine VV 20 ?_
    refine WP 21 ?_
    rw [decide_eq_false h2]
    refine WP 22 ?_
    refine WP 23 ?_
    refine DN ?_
    repeat (first | refine GD ?_ | refine NW fun _ => ?_)
    refine WL.step rfl (OP.call (pre := []) rfl rfl (rwrong_ok num 10 (by decide)) PS rfl rfl ?_)
    intro v M hF
    obtain ⟨M', h1, h2⟩ := hF.isEr
    repeat (first | refine GD ?_ | refine NW fun _ => ?_)
    refine ret2 rfl rfl ⟨M' ++ [rnd p T rest R], ?_, ?_⟩
    · unfold RAnswer
      rw [hop]
      exact ⟨v, M', h1, rfl, rfl⟩
    · rw [List.append_assoc]
      refine (Imp.app h2 _).trans (Imp.appL ?_ _)
      exact Imp.trans II (rndFold p T rest R x)
  rw [if_neg (by rintro (h | h | h); exact h0 h; exact h h1; exact h h2)] at hdef
  refine RD 24 24 (_) ?_
  refine WP 0 ?_
  refine WP 1 ?_
  refine WP 2 ?_
  refine VV 3 ?_
  refine WP 4 ?_
  rw [decide_eq_false h0]
  refine WP 5 ?_
  refine WP 6 ?_
  refine VV 7 ?_
  refine WP 8 ?_
  refine WP 9 ?_
  refine WP 10 ?_
  refine VV 11 ?_
  refine WP 12 ?_
  rw [decide_eq_true h1]
  refine WP 13 ?_
  refine WP 14 ?_
  refine WP 15 ?_
  refine VV 16 ?_
  refine WP 17 ?_
  refine WP 18 ?_
  refine WP 19 ?_
  refine VV 20 ?_
  refine WP 21 ?_
  rw [decide_eq_true h2]
  refine WP 22 ?_
  refine WP 23 ?_
  refine DN ?_
  repeat (first | refine GD ?_ | refine NW fun _ => ?_)
  by_cases h3 : vol ∈ R.vols
  rotate_left
  · have hop : answerR R (kd, vol, num) = .error 12 := by rw [hdef, if_pos h3]
    refine RD 9 9 (_) ?_
    refine WP 0 ?_
    refine WP 1 ?_
    refine WP 2 ?_
    refine VV 3 ?_
    refine WP 4 ?_
    refine VV 5 ?_
    refine WH.only 6 rfl rfl (by kernel_rfl) rfl (OP.callRO rfl rfl (icontains_ro x.1 R.vols.length x.2.1 R.vols vol rfl hs) (Ent.own (T := 3) MM) rfl rfl ⟨fun _ => II, ?_⟩)
    rw [decide_eq_false h3]
    refine WP 7 ?_
    refine WP 8 ?_
    refine DN ?_
    repeat (first | refine GD ?_ | refine NW fun _ => ?_)
    refine WL.step rfl (OP.call (pre := []) rfl rfl (rwrong_ok num 12 (by decide)) PS rfl rfl ?_)
    intro v M hF
    obtain ⟨M', h1, h2⟩ := hF.isEr
    repeat (first | refine GD ?_ | refine NW fun _ => ?_)
    refine ret2 rfl rfl ⟨M' ++ [rnd p T rest R], ?_, ?_⟩
    · unfold RAnswer
      rw [hop]
      exact ⟨v, M', h1, rfl, rfl⟩
    · rw [List.append_assoc]
      refine (Imp.app h2 _).trans (Imp.appL ?_ _)
      exact Imp.trans II (rndFold p T rest R x)
  rw [if_neg (not_not_intro h3)] at hdef
  refine RD 9 9 (_) ?_
  refine WP 0 ?_
  refine WP 1 ?_
  refine WP 2 ?_
  refine VV 3 ?_
  refine WP 4 ?_
  refine VV 5 ?_
  refine WH.only 6 rfl rfl (by kernel_rfl) rfl (OP.callRO rfl rfl (icontains_ro x.1 R.vols.length x.2.1 R.vols vol rfl hs) (Ent.own (T := 3) MM) rfl rfl ⟨fun _ => II, ?_⟩)
  rw [decide_eq_true h3]
  refine WP 7 ?_
  refine WP 8 ?_
  refine DN ?_
  obtain ⟨va, vc, mo⟩ := x
  cases mo with
  | none =>
    refine WC.fact (p := R.number = 0) (Ent.mem (A := ansO R.ans R.number none) MM (up_ansO _ _ _) (fun _ h => h.2)) (fun h => absurd h h0)
  | some r =>
  rw [show ansO R.ans R.number (some r) = mapA r (ansM R.ans) from rfl]
  have hlk := rlacks_rt p T rest { R with ans := setA R.ans vol } hs
  have hnx := rnext_ok p T rest { R with ans := setA R.ans vol } hs (hp h0)
  dsimp only
  repeat (first | refine GD ?_ | refine NW fun _ => ?_)
  refine RD 6 7 (_) ?_
  refine WP 0 ?_
  refine WP 1 ?_
  refine WP 2 ?_
  refine VV 3 ?_
  refine WP 4 ?_
  refine VV 5 ?_
  refine WH.only 6 rfl rfl (by kernel_rfl) rfl (OP.mapUpdate rfl rfl rfl rfl rfl rfl rfl rfl (show Imp _ (mapA r (ansM R.ans) :: _) from P1) rfl ⟨(fun h => nomatch h), ?_⟩)
  rw [ansM_set]
  refine DN ?_
  repeat (first | refine GD ?_ | refine NW fun _ => ?_)
  refine WL.imp (M := [rnd p T rest { R with ans := setA R.ans vol }, F]) (Imp.trans (show Imp _ (blk p (rndC { R with ans := setA R.ans vol } (va, vc, some r) ++ rest) T :: ownS va R.vols.length vc 3 1 (R.vols.map vI) :: ansO (setA R.ans vol) R.number (some r) :: [F]) from II) (rndFold p T rest { R with ans := setA R.ans vol } (va, vc, some r))) ?_
  refine WL.step rfl (OP.callRT rfl rfl hlk (Ent.at (up_rnd _ _ _ _) MM) rfl rfl ?_)
  rintro _ _ ⟨aL, cL, rfl, rfl⟩
  have hll : (lacksM { R with ans := setA R.ans vol }).length ≤ R.vols.length := List.length_filter_le _ _
  generalize hLK : lacksM { R with ans := setA R.ans vol } = lk at *
  by_cases h4 : lk = []
  rotate_left
  · have hpos : 0 < lk.length := List.length_pos_iff.2 h4
    rw [if_pos h4] at hdef
    repeat (first | refine GD ?_ | refine NW fun _ => ?_)
    refine ret2 rfl rfl ⟨[ownS none 0 0 60 3 []] ++ [rnd p T rest { R with ans := setA R.ans vol }], ?_, Imp.trans (Imp.nilS _ _) II⟩
    unfold RAnswer
    rw [hdef]
    exact ⟨_, _, ⟨none, 0, rfl, rfl⟩, rfl, rfl⟩
  · rw [if_neg (not_not_intro h4)] at hdef
    subst h4
    repeat (first | refine GD ?_ | refine NW fun _ => ?_)
    refine WL.step rfl (OP.call (pre := [rnd p T rest { R with ans := setA R.ans vol }]) rfl rfl hnx PS rfl rfl ?_)
    rintro v _ ⟨E, hE, rfl⟩
    repeat (first | refine GD ?_ | refine NW fun _ => ?_)
    refine ret2 rfl rfl ⟨E ++ [rnd p T rest (nextR { R with ans := setA R.ans vol }).2], ?_, ?_⟩
    · unfold RAnswer
      rw [hdef]
      exact ⟨v, E, hE, rfl, rfl⟩
    · rw [List.append_assoc, List.append_assoc]
      exact Imp.appL II _
set_option maxHeartbeats 4000000 in
set_option maxRecDepth 10000 in
theorem rtick_ok (p : Nat) (T : TypeId) (rest : List Value) (R : Rnd) (hs : R.vols.length < 1000000) (hl : 0 ≤ R.left ∧ R.left ≤ 6) :
    Triple G 92 [.pointer (some ⟨p, 0, none⟩)] [rnd p T rest R] (fun v M => ∃ E, CmdsA (tickR R).1 v E ∧ M = E ++ [rnd p T rest (tickR R).2]) := by
  refine Triple.enter Tryz.func92 rfl (by decide) rfl Tryz.ntmps92 rfl (fun F => ?_)
  have hdef : tickR R = if R.number = 0 then ([], R) else if 0 < R.left - 1 then ([], { R with left := R.left - 1 }) else if R.phase ≠ 3 then ({ R with left := R.left - 1 } : Rnd).enter 3 else (tellL R, { R with left := 6 }) := rfl
  repeat (first | refine GD ?_ | refine NW fun _ => ?_)
  refine WL.step rfl (OP.callRO rfl rfl (rnumber_ro p T rest R) (Ent.at (up_rnd _ _ _ _) MM) rfl rfl ?_)
  by_cases h0 : R.number = 0
  · rw [if_pos h0] at hdef
    rw [hdef]
    repeat (first | refine GD ?_ | refine NW fun _ => ?_)
    exact ret1 rfl ⟨[ownS none 0 0 60 3 []] ++ [rnd p T rest R], ⟨_, ⟨none, 0, rfl, rfl⟩, rfl⟩, Imp.nilS _ _⟩
  rw [if_neg h0] at hdef
  repeat (first | refine GD ?_ | refine NW fun _ => ?_)
  refine WL.open (M := [F]) (Ls := rndL p T rest R) II (fun x => ?_)
  unfold rndL rndC
  dsimp only [List.cons_append, List.nil_append]
  by_cases h1 : 0 < R.left - 1
  · rw [if_pos h1] at hdef
    rw [hdef]
    repeat (first | refine GD ?_ | refine NW fun _ => ?_)
    refine ret1 rfl ⟨[ownS none 0 0 60 3 []] ++ [rnd p T rest { R with left := R.left - 1 }], ⟨_, ⟨none, 0, rfl, rfl⟩, rfl⟩, ?_⟩
    exact Imp.trans (rndFold p T rest { R with left := R.left - 1 } x) (Imp.nilS _ _)
  rw [if_neg h1] at hdef
  by_cases h2 : R.phase = 3
  rotate_left
  · rw [if_pos h2] at hdef
    rw [hdef]
    have hen := renter_ok p T rest { R with left := R.left - 1 } 3 x hs
    unfold rndC at hen
    dsimp only [List.cons_append, List.nil_append] at hen
    repeat (first | refine GD ?_ | refine NW fun _ => ?_)
    refine WL.step rfl (OP.call (pre := [blk p _ T, ownS x.1 R.vols.length x.2.1 3 1 (R.vols.map vI)]) rfl rfl hen PS rfl rfl ?_)
    rintro v _ ⟨E, hE, rfl⟩
    repeat (first | refine GD ?_ | refine NW fun _ => ?_)
    refine ret1 rfl ⟨_, ⟨E, hE, rfl⟩, ?_⟩
    rw [List.append_assoc, List.append_assoc]
    exact Imp.appL II _
  · rw [if_neg (not_not_intro h2)] at hdef
    rw [hdef]
    have htl := rtell_ok p T rest { R with left := R.left - 1 } hs
    repeat (first | refine GD ?_ | refine NW fun _ => ?_)
    refine WL.imp (M := [rnd p T rest { R with left := R.left - 1 }, F]) (rndFold p T rest { R with left := R.left - 1 } x) ?_
    refine WL.step rfl (OP.call (pre := [rnd p T rest { R with left := R.left - 1 }]) rfl rfl htl PS rfl rfl ?_)
    rintro v _ ⟨E, hE, rfl⟩
    repeat (first | refine GD ?_ | refine NW fun _ => ?_)
    exact ret1 rfl ⟨_, ⟨E, hE, rfl⟩, Imp.refl _⟩
end Go.Proofs.YtleajkobmhhacaaGreatDoor
