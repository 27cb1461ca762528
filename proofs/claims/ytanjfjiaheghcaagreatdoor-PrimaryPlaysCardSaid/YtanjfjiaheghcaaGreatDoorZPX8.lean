/- Contracts of functions of the given program, and plain laws: parts of the proofs of laws. -/
import Derived.Test.YtanjfjiaheghcaaGreatDoorZPX3
import Derived.Test.YtanjfjiaheghcaaGreatDoorZPX7
import Derived.Test.YtanjfjiaheghcaaGreatDoorZPX6
/- Contracts of functions of the given program, and plain laws on what they compute: parts of the proofs of laws. -/
namespace Go.Proofs.YtanjfjiaheghcaaGreatDoor
open Go Go.GL

/-- what holds of a volume and its disk: the first f records are fast -/
structure VInv (V : Vol) (D : Dsk) (f : Nat) (B : Int) : Prop where
  j : JInv V.J D f B
  len : 10 + V.J.ring ≤ D.S.length
  l8 : V.laid.length = 8
  laidD : ∀ b (h : b < V.laid.length), plcOf (D.S.getD (2 + V.J.ring + b) []) b = some V.laid[b]
  laidN : ∀ x ∈ V.laid, (0 ≤ x.1 ∧ x.1 < V.J.hd.first + f) ∧ x.2.size ≤ 16
  blks : V.blks = takeAll V.laid V.J.held
section
variable {V : Vol} {D : Dsk} {f : Nat} {B : Int}
theorem VInv.b8 (I : VInv V D f B) : V.blks.length = 8 := by rw [I.blks, takeAll_len]; exact I.l8
theorem heldN (J : Jrn) (D : Dsk) (f : Nat) (B : Int) (I : JInv J D f B) (p : Nat) : ∀ x ∈ J.held.take p, x.2.2.1 = 1 → (1 ≤ x.2.1 ∧ x.2.1 < J.hd.first + p) ∧ x.2.2.2.2.1.size ≤ 16 := fun x hx h1 => by
  have hr := I.right x (List.mem_of_mem_take hx)
  obtain ⟨i, hi, rfl⟩ := List.getElem_of_mem hx
  rw [List.length_take] at hi
  rw [List.getElem_take] at *
  have hs := I.seq i (by omega)
  have h0 := I.hdr.2.1
  refine ⟨⟨by omega, by omega⟩, ?_⟩
  rcases hr.2 with h | h
  · omega
  · exact h.2.2.1
/-- the blocks behind the first p records -/
theorem VInv.blkP (I : VInv V D f B) {p : Nat} (hf : f ≤ p) : ∀ x ∈ takeAll V.laid (V.J.held.take p), (0 ≤ x.1 ∧ x.1 < V.J.hd.first + p) ∧ x.2.size ≤ 16 := by
  refine takeAll_all _ _ (fun x hx => ?_) (fun x hx h1 => ?_)
  · have := I.laidN x hx
    exact ⟨⟨this.1.1, by omega⟩, this.2⟩
  · have := heldN _ _ _ _ I.j p x hx h1
    exact ⟨⟨by dsimp only; omega, this.1.2⟩, this.2⟩
theorem VInv.blkN (I : VInv V D f B) : ∀ x ∈ V.blks, (0 ≤ x.1 ∧ x.1 < V.J.next) ∧ x.2.size ≤ 16 := by
  have h := I.blkP I.j.fle
  rw [List.take_length, ← I.blks] at h
  exact h
theorem VInv.rng (I : VInv V D f B) (hB : B + 2 ≤ widest) : V.rng := ⟨I.j.rng hB, I.l8, I.b8, fun x hx => (I.blkN x hx).2⟩
theorem VInv.mono {B' : Int} (I : VInv V D f B) (h : B ≤ B') : VInv V D f B' := { I with j := I.j.mono h }
theorem VInv.keep (I : VInv V D f B) (kept : Nat → Bool) (b : Nat) : (D.settle kept).S.getD (2 + V.J.ring + b) [] = D.S.getD (2 + V.J.ring + b) [] :=
  I.j.keep kept fun i _ _ e => by have := (pos_bd I.j.ring.1 (V.J.hd.first + (i : Nat))).2.1; omega
theorem VInv.flush (I : VInv V D f B) (hB : B + 2 ≤ widest) : VInv V D.flush V.J.held.length B := by
  refine ⟨I.j.flush hB, by rw [show D.flush.S.length = D.S.length from Dsk.settle_len _ _]; exact I.len, I.l8, fun b h => ?_, fun x hx => ?_, I.blks⟩
  · rw [show D.flush.S.getD (2 + V.J.ring + b) [] = _ from I.keep _ b]; exact I.laidD b h
  · have := I.laidN x hx
    have := I.j.fle
    exact ⟨⟨by omega, by omega⟩, by omega⟩
theorem VInv.append (I : VInv V D f B) {at_ : Int} {r : Rec} {V' : Vol} {D' : Dsk} (h : appV V D at_ r = .ok (V', D')) :
    VInv V' D' f (B + 2) ∧ V'.J.ring = V.J.ring ∧ V'.J.hd = V.J.hd ∧ V'.laid = V.laid ∧ V'.blks = takeV V.blks (setSeq r V.J.next) ∧ V'.J.held = V.J.held ++ [(V.J.hd.gen, setSeq r V.J.next)] := by
  unfold appV at h
  split at h
  · rename_i J2 D2 hap
    cases h
    obtain ⟨I2, h1, h2, h3⟩ := I.j.append hap
    have hS : D'.S = D.S := by
      unfold appendM at hap
      split at hap
      · cases hap
      · split at hap
        · cases hap; rfl
        · cases hap
    refine ⟨⟨I2, ?_, I.l8, ?_, ?_, ?_⟩, h2, h1, rfl, rfl, h3⟩
    · dsimp only; rw [hS, h2]; exact I.len
    · intro b hb
      dsimp only at hb ⊢
      rw [hS, h2]; exact I.laidD b hb
    · dsimp only; rw [h1]; exact I.laidN
    · dsimp only
      rw [h3, takeAll_snoc, ← I.blks]
  · cases h
/-- nothing of the journal's sectors is changed -/
theorem JInv.swap {J : Jrn} {D D' : Dsk} (I : JInv J D f B) (hW : D.W = []) (hok : D'.ok) (hl : D'.S.length = D.S.length) (hW' : D'.W = []) (hS : ∀ p, p < 2 + J.ring → D'.S.getD p [] = D.S.getD p []) : JInv J D' f B := by
  have hp := fun a => pos_bd I.ring.1 a
  have hm := mod2 J.hd.turn I.hdr.1
  refine ⟨hok, by rw [hl]; exact I.ring, I.hdr, I.bound, I.len, I.fle, I.seq, I.right, I.gens, I.new, ?_, ?_, ?_, ?_, ?_, ?_⟩
  · rw [hS _ (by omega)]; exact I.head
  · intro h' hh
    rw [hS _ (by omega)] at hh
    exact I.other h' hh
  · intro i h hf
    rw [hS _ (hp _).2.1]
    exact I.durable i h hf
  · rw [hW', ← hW]; exact I.loose
  · intro q hq x hx
    rw [hS _ (by omega)] at hx
    exact I.stale q hq x hx
  · rw [hS _ (hp _).2.1]
    exact I.stop
theorem trimM_S {J J' : Jrn} {D D' : Dsk} {k : Int} (hW : D.W = []) (h : trimM J D k = .ok (J', D')) : (∀ p, 2 ≤ p → D'.S.getD p [] = D.S.getD p []) ∧ D'.S.length = D.S.length := by
  unfold trimM at h
  split at h
  · cases h
  split at h
  · cases h; exact ⟨fun _ _ => rfl, rfl⟩
  · cases h
    rw [flush_nil hW]
    refine ⟨fun p hp => ?_, save_len _ _⟩
    rw [(save_S D _).1, flush_nil hW, getD_set_ne]
    dsimp only
    omega
theorem VInv.lay (I : VInv V D f B) (hB : B + 2 ≤ widest) : VInv ⟨V.J, V.blks, V.blks⟩ (layV V D) V.J.held.length B ∧ (layV V D).W = [] := by
  have I1 := I.flush hB
  have hl1 : D.flush.S.length = D.S.length := Dsk.settle_len _ _
  have hlen := I1.len
  have hr := I1.rng hB
  have hb8 := I.b8
  have hwd : widest = 1152921504606846975 := rfl
  have hok := layF_ok V.J.ring V.laid V.blks hb8 hr.s I1.j.dok hlen 8 (Nat.le_refl _)
  have hfl : (layF V.J.ring V.laid V.blks 8 D.flush).S.length = D.flush.S.length := layF_len _ _ _ _ _
  have hlS : (layV V D).S.length = D.flush.S.length := by unfold layV; rw [show ∀ D : Dsk, D.flush.S.length = D.S.length from fun D => Dsk.settle_len _ _, hfl]
  have hcur : ∀ p, p < D.flush.S.length → (layV V D).S.getD p [] = (layF V.J.ring V.laid V.blks 8 D.flush).cur p := fun p hp => by
    have := Dsk.flush_cur (layF V.J.ring V.laid V.blks 8 D.flush) (i := p) (by rw [hfl]; exact hp)
    exact this
  have hcu2 : ∀ p, D.flush.cur p = D.flush.S.getD p [] := fun p => rfl
  have hlow : ∀ p, p < 2 + V.J.ring → (layV V D).S.getD p [] = D.flush.S.getD p [] := fun p hp => by
    rw [hcur p (by omega), layF_lo hp, hcu2]
  have hbn := I.blkN
  refine ⟨⟨I1.j.swap rfl (Dsk.settle_ok hok _) hlS rfl hlow, by rw [hlS]; exact hlen, hb8, ?_, ?_, ?_⟩, rfl⟩
  · intro b hb
    dsimp only at hb ⊢
    have hll : b < V.laid.length := by rw [I.l8]; omega
    rw [hcur _ (by omega), layF_hi, getD_lt hll, getD_lt hb, hcu2]
    have hx := hbn _ (List.getElem_mem hb)
    have hnx : V.J.next ≤ widest := by have := I.j.bound; have := I.j.hdr; unfold Jrn.next; omega
    have h0 := (I.laidN _ (List.getElem_mem hll)).1.1
    by_cases hc : b < 8 ∧ (V.laid[b]).1 < (V.blks[b]).1
    · rw [if_pos hc]
      exact plcOf_plcS ⟨by omega, by omega⟩ ⟨by omega, by omega⟩ hx.2
    · rw [if_neg hc, I1.laidD b hll]
      have hle : ¬ (V.laid[b]).1 < (V.blks[b]).1 := fun h => hc ⟨by omega, h⟩
      have hs := takeAll_same V.J.held V.laid b
      rw [← I.blks, getD_lt hll, getD_lt hb] at hs
      rcases hs with hs | hs
      · rw [hs]
      · exact absurd hs hle
  · intro x hx
    exact hbn x hx
  · dsimp only
    refine (takeAll_id _ _ (fun x hx h1 => ?_)).symm
    have hrb := right_block (I.j.right x hx) h1
    rw [I.blks]
    exact takeAll_ge _ _ x hx h1 (by rw [I.l8]; omega)
/-- a checkpoint -/
theorem VInv.ck (I : VInv V D f B) (hB : B + 2 ≤ widest) {upto : Int} {V' : Vol} {D' : Dsk} (h : ckV V D upto = .ok (V', D')) :
    VInv V' D' V'.J.held.length (B + 2) ∧ V'.blks = V.blks ∧ V'.J.ring = V.J.ring ∧ V'.J.next = V.J.next ∧ ∃ k, V'.J.held = V.J.held.drop k := by
  unfold ckV at h
  split at h
  · cases h
  split at h
  · rename_i J2 D2 htr
    cases h
    obtain ⟨I2, hW⟩ := I.lay hB
    obtain ⟨hS, hl⟩ := trimM_S hW htr
    have hlen := I2.len
    rcases I2.j.trim hB htr with ⟨_, rfl, rfl⟩ | ⟨g1, g2, g3, g4, g5, I3, _⟩
    · exact ⟨I2.mono (by omega), rfl, rfl, rfl, 0, rfl⟩
    · dsimp only at g1 g2 g3 g4 g5 hlen
      have hnx : J2.next = V.J.next := by
        unfold Jrn.next
        rw [g3, g4, List.length_drop]
        omega
      refine ⟨⟨I3, ?_, I2.l8, ?_, ?_, ?_⟩, rfl, g5, hnx, _, g3⟩
      · dsimp only; rw [hl, g5]; exact hlen
      · intro b hb
        dsimp only at hb ⊢
        rw [hS _ (by omega), g5]
        exact I2.laidD b hb
      · intro x hx
        have := I2.laidN x hx
        have e : J2.hd.first + (J2.held.length : Int) = V.J.next := hnx
        dsimp only
        rw [e]
        exact this
      · dsimp only
        have e : V.blks = takeAll V.blks V.J.held := I2.blks
        refine (takeAll_id _ _ (fun x hx h1 => ?_)).symm
        rw [g3] at hx
        have hx := List.mem_of_mem_drop hx
        have hrb := right_block (I.j.right x hx) h1
        have hge := takeAll_ge _ V.blks x hx h1 (by rw [I.b8]; omega)
        rw [← e] at hge
        exact hge
  · cases h
/-- BEHIND A CRASH the volume is what was laid, with the first records taken -/
theorem VInv.crash (I : VInv V D f B) (hB : B + 2 ≤ widest) (kept : Nat → Bool) : ∃ q V' D', f ≤ q ∧ q ≤ V.J.held.length ∧ openV (D.settle kept) V.J.ring = .ok (V', D') ∧ VInv V' D' q (B + 2) ∧ V'.J.ring = V.J.ring ∧ V'.laid = V.laid ∧ V'.J.held = V.J.held.take q := by
  obtain ⟨q, q1, q2, _, ho, I2⟩ := I.j.crash hB kept
  have hlen := I.len
  obtain ⟨r1, r2, r3⟩ := I.j.ring
  have hl1 : (D.settle kept).S.length = D.S.length := Dsk.settle_len _ _
  have hD : ∀ b (h : b < V.laid.length), plcOf ((saveM (D.settle kept) { V.J.hd with gen := V.J.hd.gen + 1, turn := V.J.hd.turn + 1 }).S.getD (2 + V.J.ring + b) []) b = some V.laid[b] := fun b h => by
    rw [(save_S _ _).1, flush_nil rfl, getD_set_ne (by dsimp only; omega), I.keep kept b]
    exact I.laidD b h
  have hpl : plcsM (saveM (D.settle kept) { V.J.hd with gen := V.J.hd.gen + 1, turn := V.J.hd.turn + 1 }) V.J.ring = some V.laid := plcsM_of I.l8 hD
  refine ⟨q, ⟨⟨V.J.ring, { V.J.hd with gen := V.J.hd.gen + 1, turn := V.J.hd.turn + 1 }, V.J.held.take q⟩, V.laid, takeAll V.laid (V.J.held.take q)⟩, _, q1, q2, ?_, ⟨I2, ?_, I.l8, hD, ?_, rfl⟩, rfl, rfl, rfl⟩
  · unfold openV
    rw [if_neg (by omega), ho]
    dsimp only
    rw [Int.toNat_natCast, hpl]
  · rw [save_len, hl1]; exact hlen
  · intro x hx
    have := I.laidN x hx
    dsimp only
    exact ⟨⟨by omega, by omega⟩, by omega⟩
end
/-- a volume on an empty disk -/
theorem VInv.fresh {n ring : Nat} (h1 : 1 ≤ ring) (h2 : ring ≤ 512) (h3 : 10 + ring ≤ n) (h4 : n ≤ 1024) :
    openV (Dsk.new n) ring = .ok (⟨⟨ring, ⟨1, 1, 1, 0⟩, []⟩, List.replicate 8 plc0, List.replicate 8 plc0⟩, saveM (Dsk.new n) ⟨1, 1, 1, 0⟩) ∧ VInv ⟨⟨ring, ⟨1, 1, 1, 0⟩, []⟩, List.replicate 8 plc0, List.replicate 8 plc0⟩ (saveM (Dsk.new n) ⟨1, 1, 1, 0⟩) 0 3 := by
  obtain ⟨ho, I⟩ := JInv.fresh h1 h2 (show 2 + ring ≤ n by omega) h4
  have hS : (Dsk.new n).S = List.replicate n zero64 := by
    unfold Dsk.new
    rw [show (max 0 (min (n : Int) 1024)).toNat = n by omega]
  have hl : (Dsk.new n).S.length = n := by rw [hS]; exact List.length_replicate
  have hD : ∀ b (h : b < (List.replicate 8 plc0).length), plcOf ((saveM (Dsk.new n) ⟨1, 1, 1, 0⟩).S.getD (2 + ring + b) []) b = some (List.replicate 8 plc0)[b] := fun b h => by
    have hb : b < 8 := by simpa using h
    rw [(save_S _ _).1, flush_nil rfl, getD_set_ne (by show (1 : Nat) ≠ _; omega), hS, List.getD_eq_getElem?_getD, List.getElem?_replicate, if_pos (by omega), List.getElem_replicate]
    exact plcOf_zero b
  refine ⟨?_, ⟨I, by rw [save_len, hl]; exact h3, rfl, hD, ?_, rfl⟩⟩
  · unfold openV
    rw [if_neg (by rw [hl]; omega), ho]
    dsimp only
    rw [Int.toNat_natCast, plcsM_of rfl hD]
    rfl
  · intro x hx
    rw [List.eq_of_mem_replicate hx]
    exact ⟨⟨by decide, by show (0 : Int) < 1 + ((0 : Nat) : Int); decide⟩, by decide⟩
end Go.Proofs.YtanjfjiaheghcaaGreatDoor
/- Contracts of functions of the given program, and plain laws on what they compute: parts of the proofs of laws. -/
namespace Go.Proofs.YtanjfjiaheghcaaGreatDoor
open Go Go.GL

/-! the primary: the plain model -/
def primT : ByteArray := ⟨#[112, 114, 105, 109, 97, 114, 121]⟩
def gateT : ByteArray := ⟨#[103, 97, 116, 101]⟩
def leaseT : ByteArray := ⟨#[108, 101, 97, 115, 101]⟩
/-- a write that waits: its id, its block, its data -/
abbrev Call := Int × Int × ByteArray
abbrev Er1 := List (ByteArray × Int) × Int
structure Gt where
  round : Int
  left : Int
  latest : Int
  wait : List Call
structure St where
  now : Int
  epoch : Int
  til : Int
def big60 : Int := 1152921504606846976
def St.at_ (s : St) (now : Int) : St := { s with now := max s.now (min now big60) }
def st0 : St := ⟨0, 0, 0⟩
def checkS (s : St) (e now : Int) : Option Int :=
  if s.epoch = 0 ∨ e ≠ s.epoch then some 10 else if s.til ≤ (s.at_ now).now then some 11 else none
def grantS (s : St) (e now : Int) : Option Int × St :=
  if e < 1 then (some 1, s.at_ now) else if e < s.epoch then (some 10, s.at_ now) else (none, { s.at_ now with epoch := e, til := (s.at_ now).now + 10 })
def gt0 : Gt := ⟨0, 0, 0, []⟩
def freezeG (g : Gt) (round ticks : Int) : Except Int Gt :=
  if round < 1 ∨ ticks < 1 then .error 1
  else if round ≠ g.round ∧ round ≤ g.latest then .error 10
  else .ok { g with round := round, latest := round, left := ticks }
def Gt.opened (g : Gt) : Gt := { g with wait := [], round := 0, left := 0 }
def thawG (g : Gt) (round : Int) : Except Int (List Call × Gt) := if g.round = 0 ∨ g.round ≠ round then .error 9 else .ok (g.wait, g.opened)
def tickG (g : Gt) : List Call × Gt := if g.round = 0 then ([], g) else if 0 < g.left - 1 then ([], { g with left := g.left - 1 }) else (g.wait, g.opened)
structure Pri where
  V : Vol
  D : Dsk
  G : Gt
  S : St
  marked : Int
  floor : Int
  acked : Int
def floorS (n : Int) : List UInt8 := if n = 0 then zero64 else sectorM (numB (clampN n))
def RightC (c : Call) : Prop := (0 ≤ c.2.1 ∧ c.2.1 < 8) ∧ c.2.2.size ≤ 16
def Pri.at_ (P : Pri) (now : Int) : Pri := { P with S := P.S.at_ now }
def doP (P : Pri) (c : Call) : Except Er1 (Int × Pri) := match writeV P.V P.D c.2.1 c.2.2 with
  | .error e => .error e
  | .ok (V', D') => .ok (P.V.J.next, { P with V := V', D := D'.flush })
def grantP (P : Pri) (e now : Int) : Option Er1 × Pri := (match (grantS P.S e now).1 with
  | some c => some ([(primT, e), (leaseT, e)], c)
  | none => none, { P with S := (grantS P.S e now).2 })
def enterP (P : Pri) (c : Call) : Except Er1 Int × Pri :=
  if P.G.round = 0 then match doP P c with
    | .error (l, k) => (.error ((primT, c.2.1) :: l, k), P)
    | .ok (k, P') => (.ok k, P')
  else if 4 ≤ P.G.wait.length then (.error ([(primT, c.2.1), (gateT, P.G.round)], 7), P)
  else (.ok 0, { P with G := { P.G with wait := P.G.wait ++ [c] } })
def writeP (P : Pri) (c : Call) (e now : Int) : Except Er1 Int × Pri :=
  match checkS P.S e now with
  | some k => (.error ([(primT, c.2.1), (leaseT, e)], k), P.at_ now)
  | none => if ¬ (0 ≤ c.2.1 ∧ c.2.1 < 8) then (.error ([(primT, c.2.1)], 5), P.at_ now)
    else if 16 < c.2.2.size then (.error ([(primT, c.2.1)], 1), P.at_ now)
    else enterP (P.at_ now) c
def freezeP (P : Pri) (round : Int) : Option Er1 × Pri :=
  if widest < round then (some ([(primT, round)], 1), P)
  else match freezeG P.G round 6 with
    | .error c => (some ([(primT, round), (gateT, round)], c), P)
    | .ok g => (none, if P.floor < round then { P with G := g, floor := round, D := (P.D.put (P.V.J.ring + 10) (floorS round)).flush } else { P with G := g })
def markP (P : Pri) (round : Int) : Option Er1 × Pri :=
  if round < 1 ∨ P.G.round ≠ round then (some ([(primT, round)], 9), P)
  else if P.marked = round then (none, P)
  else match markV P.V P.D round with
    | .error (l, c) => (some ((primT, round) :: l, c), P)
    | .ok (V', D') => (none, { P with V := V', D := D'.flush, marked := round })
/-- what became of a write that waited: its id, its number, a code -/
abbrev Dn := Int × Int × Int
def let1 (P : Pri) (c : Call) (now : Int) : Dn × Pri := match checkS P.S P.S.epoch now with
  | some k => ((c.1, 0, k), P.at_ now)
  | none => match doP (P.at_ now) c with
    | .error (_, k) => ((c.1, 0, k), P.at_ now)
    | .ok (k, P') => ((c.1, k, 0), P')
def letP (P : Pri) (now : Int) (l : List Call) : List Dn × Pri := l.foldl (fun s c => (s.1 ++ [(let1 s.2 c now).1], (let1 s.2 c now).2)) ([], P)
def thawP (P : Pri) (round now : Int) : List Dn × Option Er1 × Pri := match thawG P.G round with
  | .error c => ([], some ([(primT, round), (gateT, round)], c), P)
  | .ok (l, g) => ((letP { P with G := g } now l).1, none, (letP { P with G := g } now l).2)
def tickP (P : Pri) (now : Int) : List Dn × Pri := letP { P with G := (tickG P.G).2 } now (tickG P.G).1
def shipP (P : Pri) : List Rec := (P.V.J.held.map Prod.snd).take 4
def ackP (P : Pri) (upto : Int) : Option Er1 × Pri :=
  if upto < 0 ∨ P.V.J.next ≤ upto then (some ([(primT, upto)], 5), P)
  else if upto ≤ P.acked then (none, P)
  else match ckV P.V P.D upto with
    | .ok (V', D') => (none, { P with V := V', D := D', acked := upto })
    | .error _ => (none, P)
def openG (floor : Int) : Gt := ⟨0, 0, floor, []⟩
def beginP (V : Vol) (D : Dsk) (floor : Int) : Pri := ⟨V, D, openG floor, st0, 0, floor, V.J.hd.first - 1⟩
def crashP (P : Pri) (keep : Int) : Pri := match openV (P.D.crash keep) P.V.J.ring with
  | .ok (V', D') => beginP V' D' P.floor
  | .error _ => P
theorem letP_snoc (P : Pri) (now : Int) (l : List Call) (c : Call) : letP P now (l ++ [c]) = ((letP P now l).1 ++ [(let1 (letP P now l).2 c now).1], (let1 (letP P now l).2 c now).2) := by unfold letP; rw [List.foldl_append]; rfl
theorem letF_len (now : Int) : ∀ (l : List Call) (s : List Dn × Pri), (l.foldl (fun s c => (s.1 ++ [(let1 s.2 c now).1], (let1 s.2 c now).2)) s).1.length = s.1.length + l.length
  | [], _ => rfl
  | c :: r, s => by rw [List.foldl_cons, letF_len now r]; simp; omega
theorem letP_len (P : Pri) (now : Int) (l : List Call) : (letP P now l).1.length = l.length := (letF_len now l ([], P)).trans (Nat.zero_add _)
end Go.Proofs.YtanjfjiaheghcaaGreatDoor
/- Contracts of functions of the given program, and plain laws on what they compute: parts of the proofs of laws. -/

namespace Go.Proofs.YtanjfjiaheghcaaGreatDoor
open Go Go.GL

/-! a volume's block -/
def volC (p j : Nat) (ring : Nat) (laid blks : List Plc) : List Value :=
  [.pointer (some ⟨p, 0, none⟩), .int .i64 ring, .pointer (some ⟨j, 0, none⟩)] ++ laid.flatMap plcC ++ blks.flatMap plcC
def volB (v p j : Nat) (ring : Nat) (laid blks : List Plc) : Assn := blk v (volC p j ring laid blks) 184
theorem plcC_len (x : Plc) : (plcC x).length = 2 := rfl
/-- a cell of a block's place -/
theorem volC_blk {p j ring : Nat} {laid blks : List Plc} (h1 : laid.length = 8) {b i : Nat} (hb : b < blks.length) (hi : i < 2) : (volC p j ring laid blks)[19 + b * 2 + i]? = (plcC blks[b])[i]? := by
  have hl : ([Value.pointer (some ⟨p, 0, none⟩), .int .i64 ring, .pointer (some ⟨j, 0, none⟩)] ++ laid.flatMap plcC).length = 19 := by
    rw [List.length_append, flat_len plcC_len, h1]; rfl
  unfold volC
  rw [List.getElem?_append_right (by rw [hl]; omega), hl, show 19 + b * 2 + i - 19 = b * 2 + i by omega]
  exact flat_get plcC_len blks b i hb hi
theorem volC_set {p j ring : Nat} {laid blks : List Plc} (h1 : laid.length = 8) {b : Nat} (x : Plc) (hb : b < blks.length) : setMany (volC p j ring laid blks) (19 + b * 2) (plcC x) = some (volC p j ring laid (blks.set b x)) := by
  have hl : ([Value.pointer (some ⟨p, 0, none⟩), .int .i64 ring, .pointer (some ⟨j, 0, none⟩)] ++ laid.flatMap plcC).length = 19 := by
    rw [List.length_append, flat_len plcC_len, h1]; rfl
  have h := (setMany_app (plcC x) ([Value.pointer (some ⟨p, 0, none⟩), .int .i64 ring, .pointer (some ⟨j, 0, none⟩)] ++ laid.flatMap plcC) (blks.flatMap plcC) [] (b * 2) (flat_set plcC_len blks b x hb)).1
  rw [hl, List.append_nil, List.append_nil] at h
  exact h
end Go.Proofs.YtanjfjiaheghcaaGreatDoor
/- Contracts of functions of the given program, and plain laws on what they compute: parts of the proofs of laws. -/

namespace Go.Proofs.YtanjfjiaheghcaaGreatDoor
open Go Go.GL

set_option maxHeartbeats 4000000 in
set_option maxRecDepth 10000 in
theorem vtake_ok (v p j ring : Nat) (laid blks : List Plc) (r : Rec) (h1 : laid.length = 8) (h2 : blks.length = 8) (hr : r.2.1 = 1 → 0 ≤ r.2.2.1 ∧ r.2.2.1 < 8) :
    Triple G 125 [.pointer (some ⟨v, 0, none⟩), .agg (encR r).toArray] [volB v p j ring laid blks] (fun x M => x = .tuple #[] ∧ M = [volB v p j ring laid (takeV blks r)]) := by
  refine Triple.enter Tryz.func125 rfl (by decide) rfl Tryz.ntmps125 rfl (fun F => ?_)
  obtain ⟨seq, kind, block, data, num⟩ := r
  dsimp only at hr
  rw [show encR (seq, kind, block, data, num) = [.int .i64 seq, .int .i64 kind, .int .i64 block, .string data, .int .i64 num] from rfl]
  have htk : takeV blks (seq, kind, block, data, num) = if kind = 1 ∧ (blks.getD block.toNat plc0).1 < seq then blks.set block.toNat (seq, data) else blks := rfl
  rw [htk]
  by_cases hk : kind = 1
  rotate_left
  · rw [if_neg (fun h => hk h.1)]
    repeat (first | refine GD ?_ | refine NW fun _ => ?_)
    refine RD 16 16 (_) ?_
    refine WP 0 ?_
    refine VV 1 ?_
    refine WP 2 ?_
    rw [decide_eq_false hk]
    refine WP 3 ?_
    refine WP 4 ?_
    refine VF 5 ?_
    refine WP 6 ?_
    refine WP 7 ?_
    refine VF 8 ?_
    refine WP 9 ?_
    refine WP 10 ?_
    refine WP 11 ?_
    refine WP 12 ?_
    refine VF 13 ?_
    refine WP 14 ?_
    refine WP 15 ?_
    refine DN ?_
    repeat (first | refine GD ?_ | refine NW fun _ => ?_)
    exact ret0n ⟨_, ⟨rfl, rfl⟩, II⟩
  subst hk
  obtain ⟨b0, b8⟩ := hr rfl
  obtain ⟨b, rfl⟩ : ∃ b : Nat, block = b := ⟨block.toNat, by omega⟩
  rw [Int.toNat_natCast]
  have hb : b < blks.length := by omega
  rw [List.getD_eq_getElem?_getD, List.getElem?_eq_getElem hb, Option.getD_some]
  have hcl : ∀ {L} (i : Nat) (x : Value), i < 2 → (plcC blks[b])[i]? = some x → volB v p j ring laid blks ∈ L → Ent L (cellAt v (0 + 19 + b * 2 + i) x) := fun i x hi hx m => Ent.blk (T := 184) (c := volC p j ring laid blks) m (by rw [Nat.zero_add, volC_blk h1 hb hi]; exact hx)
  repeat (first | refine GD ?_ | refine NW fun _ => ?_)
  refine RD 16 16 (_) ?_
  refine WP 0 ?_
  refine VV 1 ?_
  refine WP 2 ?_
  rw [decide_eq_true (rfl : (1 : Int) = 1)]
  refine WP 3 ?_
  refine WP 4 ?_
  refine VV 5 ?_
  refine WP 6 ?_
  refine WP 7 ?_
  refine VV 8 ?_
  refine WP 9 ?_
  refine WP 10 ?_
  refine WP 11 ?_
  refine WP 12 ?_
  refine VG 13 rfl (Quiet.load (v := .int .i64 (blks[b]).1) rfl rfl rfl (.inl ⟨rfl, hcl 0 _ (by decide) rfl MM⟩)) ?_
  refine WP 14 ?_
  refine WP 15 ?_
  refine DN ?_
  by_cases hlt : (blks[b]).1 < seq
  rotate_left
  · rw [decide_eq_false hlt, if_neg (fun h => hlt h.2)]
    repeat (first | refine GD ?_ | refine NW fun _ => ?_)
    exact ret0n ⟨_, ⟨rfl, rfl⟩, II⟩
  rw [decide_eq_true hlt, if_pos ⟨rfl, hlt⟩]
  rename_i x8
  repeat (first | refine GD ?_ | refine NW fun _ => ?_)
  refine RD 11 12 (_) ?_
  refine WP 0 ?_
  refine WP 1 ?_
  refine VV 2 ?_
  refine WP 3 ?_
  refine VV 4 ?_
  refine WP 5 ?_
  refine VV 6 ?_
  refine WP 8 ?_
  refine WP 9 ?_
  refine WH.only 7 rfl rfl (by kernel_rfl) rfl (OP.buildT rfl rfl rfl rfl ⟨fun _ => II, ?_⟩)
  refine WP 10 ?_
  refine WH.only 11 rfl rfl (by kernel_rfl) rfl (OP.store (vs := plcC (seq, data)) (M := [blk x8 [.int .i64 seq, .int .i64 1, .int .i64 b, .string data, .int .i64 num] 140, volB v p j ring laid (blks.set b (seq, data)), F]) rfl rfl rfl rfl rfl rfl rfl (UpdM.there (UpdM.here (by rw [Nat.zero_add]; exact volC_set h1 (seq, data) hb))) rfl ⟨(fun h => nomatch h), ?_⟩)
  refine DN ?_
  exact ret0n ⟨_, ⟨rfl, rfl⟩, II⟩
end Go.Proofs.YtanjfjiaheghcaaGreatDoor
/- Contracts of functions of the given program, and plain laws on what they compute: parts of the proofs of laws. -/

namespace Go.Proofs.YtanjfjiaheghcaaGreatDoor
open Go Go.GL

def volT : ByteArray := ⟨#[118, 111, 108, 117, 109, 101]⟩
/-- a volume's error: of a number, or of an error -/
theorem vwrong_ok (at_ : Int) (ch : Chain) (c : Int) (h : ¬ (ch = [] ∧ c = 0)) : Triple G 107 [.int .i64 at_, valOf ch c] [chainR ch c] (IsEr (some ((volT, at_) :: ch.map Prod.snd, c))) := by
  refine Triple.enter Tryz.func107 rfl (by decide) rfl Tryz.ntmps107 rfl (fun F => ?_)
  repeat (first | refine GO ?_ | refine NW fun _ => ?_)
  refine WL.step rfl (OP.call (pre := [chainR ch c]) rfl rfl (wrapC_ok volT at_ ch c h) PS rfl rfl ?_)
  rintro v M hM
  repeat (first | refine GO ?_ | refine NW fun _ => ?_)
  exact ret1 rfl ⟨M, hM, Imp.refl _⟩
theorem vwrong0_ok (at_ : Int) (c : Int) (h : c ≠ 0) : Triple G 107 [.int .i64 at_, .iface 99 (.int .i64 c)] [] (IsEr (some ([(volT, at_)], c))) := by
  refine ⟨(vwrong_ok at_ [] c (fun x => h x.2)).enters, fun F w s => ?_⟩
  exact (vwrong_ok at_ [] c (fun x => h x.2)).calls F w (Imp.emp.sat s)
theorem vat_ro (v p j ring : Nat) (laid blks : List Plc) (block : Int) (h : 0 ≤ block ∧ block < 8) (hr : ring ≤ 512) : RO G 116 [.pointer (some ⟨v, 0, none⟩), .int .i64 block] (volB v p j ring laid blks) (.int .i64 (2 + (ring : Int) + block)) := by
  refine RO.enter Tryz.func116 rfl (by decide) rfl Tryz.ntmps116 rfl (fun A hu hA => ?_) (up_blk _ _ _)
  repeat (first | refine GO ?_ | refine NW fun _ => ?_)
  refine WL.step rfl (OP.load1 (v := .int .i64 ring) rfl rfl rfl rfl (Ent.mem MM hu (fun h x => (Ent.blk (L := [volB v p j ring laid blks]) (List.Mem.head _) rfl) h ⟨h, Hp.empty, fun _ => .inr rfl, by funext b; simp [Hp.join, Hp.empty], hA h x, trivial⟩)) rfl rfl ?_)
  repeat (first | refine GO ?_ | refine NW fun _ => ?_)
  exact ret1 rfl ⟨rfl, MM⟩
end Go.Proofs.YtanjfjiaheghcaaGreatDoor
/- Contracts of functions of the given program, and plain laws on what they compute: parts of the proofs of laws. -/

namespace Go.Proofs.YtanjfjiaheghcaaGreatDoor
open Go Go.GL

theorem volC_setL {p j ring : Nat} {laid blks : List Plc} {b : Nat} (x : Plc) (hb : b < laid.length) : setMany (volC p j ring laid blks) (3 + b * 2) (plcC x) = some (volC p j ring (laid.set b x) blks) := by
  have h := (setMany_app (plcC x) [Value.pointer (some ⟨p, 0, none⟩), .int .i64 ring, .pointer (some ⟨j, 0, none⟩)] (laid.flatMap plcC) (blks.flatMap plcC) (b * 2) (flat_set plcC_len laid b x hb)).1
  exact h
theorem volC_setA {p j ring : Nat} {laid blks : List Plc} (h1 : laid.length = 8) (h2 : blks.length = 8) : setMany (volC p j ring laid blks) 19 (laid.flatMap plcC) = some (volC p j ring laid laid) := by
  have hl : ([Value.pointer (some ⟨p, 0, none⟩), .int .i64 ring, .pointer (some ⟨j, 0, none⟩)] ++ laid.flatMap plcC).length = 19 := by
    rw [List.length_append, flat_len plcC_len, h1]; rfl
  have h := setMany_mid (laid.flatMap plcC) ([Value.pointer (some ⟨p, 0, none⟩), .int .i64 ring, .pointer (some ⟨j, 0, none⟩)] ++ laid.flatMap plcC) (blks.flatMap plcC) [] (by rw [flat_len plcC_len, flat_len plcC_len, h1, h2])
  rw [hl, List.append_nil, List.append_nil] at h
  exact h
theorem Ent.volLaid {L : List Assn} {v p j ring : Nat} {laid blks : List Plc} (m : volB v p j ring laid blks ∈ L) : Ent L (cellsAt v 3 (laid.flatMap plcC)) :=
  Ent.mem m (up_blk _ _ _) fun h ⟨fr, hb, _⟩ => ⟨_, _, fr, hb, fun i x hi => by
    have hlt := (List.getElem?_eq_some_iff.1 hi).1
    unfold volC
    rw [List.append_assoc, List.getElem?_toArray, List.getElem?_append_right (by simp), List.getElem?_append_left (by simpa using hlt)]
    simpa using hi⟩
/-- what is known of a journal that was opened -/
theorem openM_facts {D : Dsk} {n : Nat} {J : Jrn} {D2 : Dsk} (hD : D.ok) (h : openM D n = .ok (J, D2)) :
    J.ring = n ∧ J.held.length ≤ n ∧ (∀ x ∈ J.held, RightR x.2) ∧ D2.ok ∧ D2.S.length = D.S.length ∧ D2.W.length < 10000 ∧ J.rng := by
  have hwd : widest = 1152921504606846975 := rfl
  unfold openM at h
  split at h
  · cases h
  · rename_i hc
    split at h
    · cases h
    · rename_i hd he
      cases h
      obtain ⟨⟨t1, t2⟩, ⟨f1, f2⟩, ⟨g1, g2⟩⟩ := newestM_wide he
      have hn : ((n : Int)).toNat = n := Int.toNat_natCast n
      have hsl := scanM_len D n hd
      refine ⟨hn, ?_, ?_, save_ok hD (by omega) _, save_len _ _, by show (0 : Nat) < 10000; decide, ⟨⟨?_, ?_⟩, ?_, ?_, ?_, ?_⟩⟩
      · dsimp only; rw [hn]; exact hsl
      · dsimp only; rw [hn]; exact scanM_right D n hd
      · dsimp only; omega
      · dsimp only; omega
      · dsimp only; rw [hn]; exact hsl
      · dsimp only; omega
      · dsimp only; omega
      · dsimp only; omega
def vol (v p : Nat) (V : Vol) : Assn := exA (fun j : Nat => [volB v p j V.J.ring V.laid V.blks, jrn j p V.J])
theorem up_vol (v p : Nat) (V : Vol) : Up (vol v p V) := up_exA _
theorem volFold (v p : Nat) (V : Vol) (j : Nat) {N : List Assn} : Imp (volB v p j V.J.ring V.laid V.blks :: jrn j p V.J :: N) (vol v p V :: N) := Imp.fold (Ls := fun j : Nat => [volB v p j V.J.ring V.laid V.blks, jrn j p V.J]) j
def OpenVP (p : Nat) (D : Dsk) (ring : Int) (x : Value) (M : List Assn) : Prop := match openV D ring with
  | .ok (V, D') => ∃ v, x = .tuple #[.pointer (some ⟨v, 0, none⟩), .nilIface] ∧ M = [vol v p V, dsk p D']
  | .error (l, c) => ∃ e E, IsEr (some (l, c)) e E ∧ x = .tuple #[.pointer none, e] ∧ M = E
theorem vsectors_ro (r : Int) (h : -9000000000000000000 ≤ r ∧ r ≤ 9000000000000000000) : RO G 42 [.int .i64 r] (fun _ => True) (.int .i64 (2 + r + 8)) := by
  refine RO.enter Tryz.func42 rfl (by decide) rfl Tryz.ntmps42 rfl (fun A hu hA => ?_) (fun _ _ _ h => h)
  repeat (first | refine GO ?_ | refine NW fun _ => ?_)
  exact ret1 rfl ⟨rfl, MM⟩
set_option maxHeartbeats 8000000 in
set_option maxRecDepth 10000 in
theorem vopen_ok (p : Nat) (D : Dsk) (ring : Int) (hD : D.ok) (hw : D.W.length < 10000) (hr64 : -9223372036854775808 ≤ ring ∧ ring ≤ 9223372036854775807) :
    Triple G 87 [.pointer (some ⟨p, 0, none⟩), .int .i64 ring] [dsk p D] (OpenVP p D ring) := by
  refine Triple.enter Tryz.func87 rfl (by decide) rfl Tryz.ntmps87 rfl (fun F => ?_)
  have hfew := hD.few
  have hdef : openV D ring = if ring < 1 ∨ 512 < ring ∨ (D.S.length : Int) < 10 + ring then .error ([(volTx, ring)], 1)
    else match openM D ring with
    | .error c => .error ([(volTx, ring), (jrnTx, ring)], c)
    | .ok (J, D') => match plcsM D' ring.toNat with
      | none => .error ([(volTx, ring)], 4)
      | some l => .ok (⟨J, l, takeAll l J.held⟩, D') := rfl
  by_cases h1 : ring < 1
  · have hop : openV D ring = .error ([(volTx, ring)], 1) := by rw [hdef, if_pos (.inl h1)]
    repeat (first | refine GD ?_ | refine NW fun _ => ?_)
    refine WL.step rfl (OP.call (pre := []) rfl rfl (vwrong0_ok ring 1 (by decide)) PS rfl rfl ?_)
    intro x M hF
    repeat (first | refine GD ?_ | refine NW fun _ => ?_)
    refine ret2 rfl rfl ⟨M, ?_, Imp.appL II M⟩
    unfold OpenVP
    rw [hop]
    exact ⟨x, M, hF, rfl, rfl⟩
  by_cases h2 : 512 < ring
  · have hop : openV D ring = .error ([(volTx, ring)], 1) := by rw [hdef, if_pos (.inr (.inl h2))]
    repeat (first | refine GD ?_ | refine NW fun _ => ?_)
    refine WL.step rfl (OP.call (pre := []) rfl rfl (vwrong0_ok ring 1 (by decide)) PS rfl rfl ?_)
    intro x M hF
    repeat (first | refine GD ?_ | refine NW fun _ => ?_)
    refine ret2 rfl rfl ⟨M, ?_, Imp.appL II M⟩
    unfold OpenVP
    rw [hop]
    exact ⟨x, M, hF, rfl, rfl⟩
  repeat (first | refine GD ?_ | refine NW fun _ => ?_)
  refine WL.guardT rfl rfl rfl rfl (OP.callRO rfl rfl (dlen_ro p D) (Ent.at (up_dsk p D) MM) rfl rfl ?_)
  repeat (first | refine GD ?_ | refine NW fun _ => ?_)
  refine WL.guardT rfl rfl rfl rfl (OP.callRO rfl rfl (vsectors_ro ring (by omega)) (fun _ _ => trivial) rfl rfl ?_)
  by_cases h3 : (D.S.length : Int) < 2 + ring + 8
  · have hop : openV D ring = .error ([(volTx, ring)], 1) := by rw [hdef, if_pos (.inr (.inr (by omega)))]
    repeat (first | refine GD ?_ | refine NW fun _ => ?_)
    refine WL.step rfl (OP.call (pre := []) rfl rfl (vwrong0_ok ring 1 (by decide)) PS rfl rfl ?_)
    intro x M hF
    repeat (first | refine GD ?_ | refine NW fun _ => ?_)
    refine ret2 rfl rfl ⟨M, ?_, Imp.appL II M⟩
    unfold OpenVP
    rw [hop]
    exact ⟨x, M, hF, rfl, rfl⟩
  rw [if_neg (by omega)] at hdef
  have hjo := jopen_ok p D ring hD hw hr64
  unfold OpenJ at hjo
  repeat (first | refine GD ?_ | refine NW fun _ => ?_)
  refine WL.step rfl (OP.call (pre := [dsk p D]) rfl rfl hjo PS rfl rfl ?_)
  intro x M hO
  cases hq : openM D ring with
  | error c =>
    rw [hq] at hO hdef
    obtain ⟨e, E, ⟨ch, hch, rfl, rfl⟩, rfl, rfl⟩ := hO
    cases ch with
    | nil => cases hch
    | cons y ch =>
      have hop : openV D ring = .error ([(volTx, ring), (jrnTx, ring)], c) := hdef
      repeat (first | refine GD ?_ | refine NW fun _ => ?_)
      refine WL.step rfl (OP.call (pre := [chainR (y :: ch) c]) rfl rfl (vwrong_ok ring (y :: ch) c (fun h => nomatch h.1)) PS rfl rfl ?_)
      rw [hch]
      intro x M hF
      repeat (first | refine GD ?_ | refine NW fun _ => ?_)
      refine ret2 rfl rfl ⟨M, ?_, Imp.appL II M⟩
      unfold OpenVP
      rw [hop]
      exact ⟨x, M, hF, rfl, rfl⟩
  | ok y =>
    obtain ⟨J, D2⟩ := y
    rw [hq] at hO hdef
    obtain ⟨j, rfl, rfl⟩ := hO
    obtain ⟨n, rfl⟩ : ∃ n : Nat, ring = n := ⟨ring.toNat, by omega⟩
    rw [Int.toNat_natCast] at hdef
    dsimp only at hdef
    obtain ⟨hJr, hJlen, hJright, hDok, hDlen, hDfew, hJrng⟩ := openM_facts hD hq
    clear hjo
    repeat (first | refine GD ?_ | refine NW fun _ => ?_)
    rename_i v
    refine WC.imp (M := [volB v p j n (List.replicate 8 plc0) (List.replicate 8 plc0), jrn j p J, dsk p D2, F]) (Imp.refl _) ?_
    have hl8 : ∀ {k : Nat} {l : List Plc}, l.length + k = 8 → (l ++ List.replicate k plc0).length = 8 := fun h => by simp; exact h
    have hr8 : (List.replicate 8 plc0).length = 8 := rfl
    refine WC.loop (σ := Nat × List Plc) (fun s => s.2.length + s.1 = 8 ∧ plcsF D2 n s.1 s.2 = plcsM D2 n)
      (fun s => [(0, .val (.pointer (some ⟨p, 0, none⟩))), (1, .val (.int .i64 n)), (6, .val (.pointer (some ⟨j, 0, none⟩))), (8, .val (.pointer (some ⟨v, 0, none⟩))), (48, .val (.int .i64 s.2.length))])
      (fun s => [volB v p j n (s.2 ++ List.replicate s.1 plc0) (List.replicate 8 plc0), jrn j p J, dsk p D2, F]) (fun s => s.1) (8, []) ⟨rfl, rfl⟩ ⟨rfl, rfl, rfl, rfl, rfl, trivial⟩ (Imp.refl _) ?_
    rintro ⟨k, l⟩ ⟨hk, hs⟩
    dsimp only at hk hs ⊢
    cases k with
    | zero =>
      have hk8 : l.length = 8 := hk
      rw [hk8]
      have hap : l ++ List.replicate 0 plc0 = l := List.append_nil l
      rw [hap]
      have hpl : plcsM D2 n = some l := hs.symm
      rw [hpl] at hdef
      have hlc : (l.flatMap plcC).length = 16 := by rw [flat_len plcC_len, hk8]
      have h1l : ∀ l : List Plc, allOne (l.flatMap plcC) = true := fun l => by
        induction l with
        | nil => rfl
        | cons x r ih => rw [List.flatMap_cons]; simpa [plcC, allOne, one] using ih
      repeat (first | refine GD ?_ | refine NW fun _ => ?_)
      refine WL.step rfl (OP.loadA (l := l.flatMap plcC) rfl rfl rfl rfl (Ent.volLaid MM) hlc rfl rfl ?_)
      repeat (first | refine GD ?_ | refine NW fun _ => ?_)
      refine WL.step rfl (OP.store (vs := l.flatMap plcC) (M := [volB v p j n l l, jrn j p J, dsk p D2, F]) rfl rfl rfl rfl rfl (h1l l) hlc (UpdM.here (by rw [Nat.zero_add]; exact volC_setA hk8 rfl)) rfl ?_)
      repeat (first | refine GD ?_ | refine NW fun _ => ?_)
      refine WL.step rfl (OP.callRT rfl rfl (jrecords_rt j p J hJrng) (Ent.at (up_jrn j p J) MM) rfl rfl ?_)
      rintro _ _ ⟨ar, capr, rfl, rfl⟩
      dsimp only at hdef
      have hlR : ∀ x : Held, (encR x.2).length = 5 := fun _ => rfl
      repeat (first | refine GD ?_ | refine NW fun _ => ?_)
      refine WC.loop (σ := Nat) (fun i => i ≤ J.held.length)
        (fun i => [(8, .val (.pointer (some ⟨v, 0, none⟩))), (85, .val (.slice ar J.held.length capr)), (86, .val (.int .i64 J.held.length)), (87, .val (.int .i64 i))])
        (fun i => [ownS ar J.held.length capr 140 5 (J.held.flatMap (fun x => encR x.2)), volB v p j n l (takeAll l (J.held.take i)), jrn j p J, dsk p D2, F]) (fun i => J.held.length - i) 0 (Nat.zero_le _) ⟨rfl, rfl, rfl, rfl, trivial⟩ (Imp.refl _) ?_
      rintro i hi
      by_cases hlt : i < J.held.length
      rotate_left
      · have he : i = J.held.length := by omega
        subst he
        rw [List.take_length]
        repeat (first | refine GD ?_ | refine NW fun _ => ?_)
        refine ret2 rfl rfl ⟨[vol v p ⟨J, l, takeAll l J.held⟩, dsk p D2], ?_, ?_⟩
        · unfold OpenVP
          rw [hdef]
          exact ⟨v, rfl, rfl⟩
        · refine Imp.trans ?_ (volFold v p ⟨J, l, takeAll l J.held⟩ j)
          dsimp only
          rw [hJr]
          exact II
      have hsn : takeAll l (J.held.take (i + 1)) = takeV (takeAll l (J.held.take i)) J.held[i].2 := by
        rw [← List.take_append_getElem hlt, takeAll_snoc]
      have htl := (takeAll_len (J.held.take i) l).trans hk8
      have hrt := right_block (hJright _ (List.getElem_mem hlt))
      refine WC.fact (Ent.some (Ent.own (a := ar) (n := J.held.length) (cap := capr) (T := 140) (size := 5) (cs := J.held.flatMap (fun x => encR x.2)) MM) (by omega)) ?_
      rintro ⟨b, off, hx⟩
      rw [hx]
      repeat (first | refine GD ?_ | refine NW fun _ => ?_)
      refine WL.step rfl (OP.loadA (l := encR J.held[i].2) rfl rfl rfl rfl (Ent.elA hlR (Ent.own (T := 140) MM) hlt) rfl rfl rfl ?_)
      generalize J.held[i] = e at *
      obtain ⟨g, r⟩ := e
      dsimp only at hsn hrt
      repeat (first | refine GD ?_ | refine NW fun _ => ?_)
      refine WL.step rfl (OP.call (pre := [volB v p j n l (takeAll l (J.held.take i))]) rfl rfl (vtake_ok v p j n l (takeAll l (J.held.take i)) r hk8 htl hrt) PS rfl rfl ?_)
      rintro _ _ ⟨rfl, rfl⟩
      rw [← hsn]
      repeat (first | refine GD ?_ | refine NW fun _ => ?_)
      exact ⟨i + 1, by omega, by omega, ⟨rfl, rfl, rfl, rfl, trivial⟩, II⟩
    | succ k =>
      have hlt : l.length < 8 := by omega
      have hst : plcsF D2 n (k + 1) l = match plcOf (D2.cur (2 + n + l.length)) l.length with
        | some x => plcsF D2 n k (l ++ [x])
        | none => none := rfl
      rw [hst] at hs
      have h64 := Dsk.cur_64 hDok (show 2 + n + l.length < D2.S.length by omega)
      have hrd := dread_rt p D2 (2 + n + l.length) hDok (by omega)
      unfold DReadPost at hrd
      rw [show (2 + (n : Int) + l.length).toNat = 2 + n + l.length by omega] at hrd
      generalize hb : D2.cur (2 + n + l.length) = b at *
      have hpo := fun (q : Nat) => placeOf_rt (some ⟨q, 0, none⟩) 64 64 b l.length h64.symm (Nat.le_refl _) rfl
      repeat (first | refine GD ?_ | refine NW fun _ => ?_)
      refine WL.step rfl (OP.callRO rfl rfl (vat_ro v p j n _ _ l.length (by omega) (by omega)) (Ent.at (up_blk _ _ _) MM) rfl rfl ?_)
      refine WL.step rfl (OP.callRT rfl rfl hrd (Ent.at (up_dsk p D2) MM) rfl rfl ?_)
      intro _ _ hE'
      rw [if_pos (by omega)] at hE'
      obtain ⟨br, rfl, rfl⟩ := hE'
      repeat (first | refine GD ?_ | refine NW fun _ => ?_)
      refine WL.step rfl (OP.callRT rfl rfl (hpo br) (Ent.at (up_readS _ _ _ _) MM) rfl rfl ?_)
      rintro _ _ ⟨hP, rfl⟩
      unfold PlcPost at hP
      cases hx : plcOf b l.length with
      | none =>
        rw [hx] at hP hs
        obtain ⟨x, rfl⟩ := hP
        have hop : openV D n = .error ([(volTx, (n : Int))], 4) := by rw [hdef, ← hs]
        repeat (first | refine GD ?_ | refine NW fun _ => ?_)
        refine WL.step rfl (OP.call (pre := []) rfl rfl (vwrong0_ok n 4 (by decide)) PS rfl rfl ?_)
        intro x M hF
        repeat (first | refine GD ?_ | refine NW fun _ => ?_)
        refine ret2 rfl rfl ⟨M, ?_, Imp.appL II M⟩
        unfold OpenVP
        rw [hop]
        exact ⟨x, M, hF, rfl, rfl⟩
      | some x =>
        rw [hx] at hP hs
        obtain rfl := hP
        have hset : (l ++ List.replicate (k + 1) plc0).set l.length x = (l ++ [x]) ++ List.replicate k plc0 := by
          rw [List.set_append_right _ _ (Nat.le_refl _), Nat.sub_self, List.append_assoc]
          rfl
        have hstm := volC_setL (p := p) (j := j) (ring := n) (blks := List.replicate 8 plc0) x (show l.length < (l ++ List.replicate (k + 1) plc0).length by rw [hl8 hk]; exact hlt)
        rw [hset] at hstm
        have hln : (l ++ [x]).length = l.length + 1 := by simp
        repeat (first | refine GD ?_ | refine NW fun _ => ?_)
        rename_i q
        refine RD 6 7 (_) ?_
        refine WP 0 ?_
        refine WP 1 ?_
        refine VL 2 (.agg (plcC x).toArray) rfl rfl rfl rfl (.inr ⟨rfl, plcC x, rfl, rfl, Ent.whole MM⟩) ?_
        refine WP 3 ?_
        refine WP 4 ?_
        refine WP 5 ?_
        refine WH.only 6 rfl rfl (by kernel_rfl) rfl (OP.store (vs := plcC x) (M := [blk q (plcC x) 180, readS (some ⟨br, 0, none⟩) 64 1 (b.map byteV), volB v p j n ((l ++ [x]) ++ List.replicate k plc0) (List.replicate 8 plc0), jrn j p J, dsk p D2, F]) rfl rfl rfl rfl rfl rfl rfl (UpdM.there (UpdM.there (UpdM.here (by rw [Nat.zero_add]; exact hstm)))) rfl ⟨(fun h => nomatch h), ?_⟩)
        refine DN ?_
        repeat (first | refine GD ?_ | refine NW fun _ => ?_)
        exact ⟨(k, l ++ [x]), ⟨by dsimp only; omega, hs⟩, Nat.lt_succ_self k, ⟨rfl, rfl, rfl, rfl, by dsimp only; rw [hln]; rfl, trivial⟩, II⟩
end Go.Proofs.YtanjfjiaheghcaaGreatDoor
/- Contracts of functions of the given program, and plain laws on what they compute: parts of the proofs of laws. -/

namespace Go.Proofs.YtanjfjiaheghcaaGreatDoor
open Go Go.GL

theorem Ent.volAt {L : List Assn} {v p j ring : Nat} {laid blks : List Plc} (m : volB v p j ring laid blks ∈ L) {i : Nat} {x : Value} (h : (volC p j ring laid blks)[i]? = some x) : Ent L (cellAt v i x) := Ent.blk (T := 184) (c := volC p j ring laid blks) m h
set_option maxRecDepth 10000 in
theorem vthere_rt (v : Nat) (block : Int) : RT G 100 [.pointer (some ⟨v, 0, none⟩), .int .i64 block] (fun _ => True) (IsEr (if 0 ≤ block ∧ block < 8 then none else some ([(volTx, block)], 5))) := by
  refine RT.enter Tryz.func100 rfl (by decide) rfl Tryz.ntmps100 rfl (fun A hu hA => ?_)
  by_cases h0 : block < 0
  · rw [if_neg (by omega)]
    repeat (first | refine GD ?_ | refine NW fun _ => ?_)
    refine WL.step rfl (OP.call (pre := []) rfl rfl (vwrong0_ok block 5 (by decide)) PS rfl rfl ?_)
    intro x M hF
    repeat (first | refine GD ?_ | refine NW fun _ => ?_)
    exact ret1 rfl ⟨M, hF, Imp.refl _⟩
  by_cases h1 : 8 ≤ block
  · rw [if_neg (by omega)]
    repeat (first | refine GD ?_ | refine NW fun _ => ?_)
    refine WL.step rfl (OP.call (pre := []) rfl rfl (vwrong0_ok block 5 (by decide)) PS rfl rfl ?_)
    intro x M hF
    repeat (first | refine GD ?_ | refine NW fun _ => ?_)
    exact ret1 rfl ⟨M, hF, Imp.refl _⟩
  rw [if_pos (by omega)]
  repeat (first | refine GD ?_ | refine NW fun _ => ?_)
  exact ret1 rfl ⟨[], ⟨rfl, rfl⟩, Imp.refl _⟩
def VReadPost (V : Vol) (block : Int) (x : Value) (E : List Assn) : Prop := match readV V block with
  | .ok d => x = .tuple #[.string d, .nilIface] ∧ E = []
  | .error (l, c) => ∃ e, IsEr (some (l, c)) e E ∧ x = .tuple #[.string ⟨#[]⟩, e]
set_option maxRecDepth 10000 in
theorem vread_rt (v p : Nat) (V : Vol) (block : Int) (hV : V.rng) : RT G 58 [.pointer (some ⟨v, 0, none⟩), .int .i64 block] (vol v p V) (VReadPost V block) := by
  refine RT.enterEx Tryz.func58 rfl (by decide) rfl Tryz.ntmps58 rfl (fun j A hu hA => ?_)
  have hC : ∀ {L} {i : Nat} {x : Value}, (volC p j V.J.ring V.laid V.blks)[i]? = some x → A ∈ L → Ent L (cellAt v i x) := fun h m => Ent.of hu hA m (Ent.volAt (List.Mem.head _) h)
  unfold VReadPost readV
  repeat (first | refine GD ?_ | refine NW fun _ => ?_)
  refine WL.step rfl (OP.callRT rfl rfl (vthere_rt v block) (fun _ _ => trivial) rfl rfl ?_)
  by_cases hb : 0 ≤ block ∧ block < 8
  rotate_left
  · rw [if_neg hb, if_pos hb]
    rintro _ _ ⟨ch, h1, rfl, rfl⟩
    cases ch with
    | nil => cases h1
    | cons x r =>
      dsimp only [valOf]
      repeat (first | refine GD ?_ | refine NW fun _ => ?_)
      exact ret2 rfl rfl ⟨[chainR (x :: r) 5], ⟨_, ⟨x :: r, h1, rfl, rfl⟩, rfl⟩, II⟩
  rw [if_pos hb, if_neg (fun h => h hb)]
  rintro _ _ ⟨rfl, rfl⟩
  obtain ⟨b, rfl⟩ : ∃ b : Nat, block = b := ⟨block.toNat, by omega⟩
  rw [Int.toNat_natCast]
  have hb' : b < V.blks.length := by rw [hV.b8]; omega
  rw [List.getD_eq_getElem?_getD, List.getElem?_eq_getElem hb', Option.getD_some]
  dsimp only
  have hcl := volC_blk (p := p) (j := j) (ring := V.J.ring) (i := 1) hV.l8 hb' (by decide)
  repeat (first | refine GD ?_ | refine NW fun _ => ?_)
  refine WL.step rfl (OP.load1 (v := .string (V.blks[b]).2) rfl rfl rfl rfl (hC (by rw [Nat.zero_add]; exact hcl) MM) rfl rfl ?_)
  repeat (first | refine GD ?_ | refine NW fun _ => ?_)
  exact ret2 rfl rfl ⟨[], ⟨rfl, rfl⟩, Imp.refl _⟩
set_option maxRecDepth 10000 in
theorem vflush_ok (v p : Nat) (V : Vol) (D : Dsk) (hD : D.ok) (hw : D.W.length < 10000) :
    Triple G 70 [.pointer (some ⟨v, 0, none⟩)] [vol v p V, dsk p D] (fun x M => x = .tuple #[] ∧ M = [vol v p V, dsk p D.flush]) := by
  refine Triple.enter Tryz.func70 rfl (by decide) rfl Tryz.ntmps70 rfl (fun F => ?_)
  refine WC.open P1 (fun j => WC.imp (M := [volB v p j V.J.ring V.laid V.blks, jrn j p V.J, dsk p D, F]) (Imp.refl _) ?_)
  repeat (first | refine GD ?_ | refine NW fun _ => ?_)
  refine WL.step rfl (OP.call (pre := [jrn j p V.J, dsk p D]) rfl rfl (jflush_ok j p V.J D hD hw) PS rfl rfl ?_)
  rintro _ _ ⟨rfl, rfl⟩
  repeat (first | refine GD ?_ | refine NW fun _ => ?_)
  exact ret0n ⟨_, ⟨rfl, rfl⟩, Imp.trans II (volFold v p V j)⟩
set_option maxRecDepth 10000 in
theorem vnext_ro (v p : Nat) (V : Vol) (hV : V.rng) : RO G 79 [.pointer (some ⟨v, 0, none⟩)] (vol v p V) (.int .i64 V.J.next) := by
  refine RO.enterEx Tryz.func79 rfl (by decide) rfl Tryz.ntmps79 rfl (fun j A hu hA => ?_)
  have hC : ∀ {L} {i : Nat} {x : Value}, (volC p j V.J.ring V.laid V.blks)[i]? = some x → A ∈ L → Ent L (cellAt v i x) := fun h m => Ent.of hu hA m (Ent.volAt (List.Mem.head _) h)
  have hE : ∀ {L}, A ∈ L → Ent L (jrn j p V.J) := fun m => Ent.of hu hA m (Ent.at (up_jrn j p V.J) (List.Mem.tail _ (List.Mem.head _)))
  repeat (first | refine GD ?_ | refine NW fun _ => ?_)
  refine WL.step rfl (OP.load1 (v := .pointer (some ⟨j, 0, none⟩)) rfl rfl rfl rfl (hC rfl MM) rfl rfl ?_)
  repeat (first | refine GD ?_ | refine NW fun _ => ?_)
  refine WL.step rfl (OP.callRO rfl rfl (jnext_ro j p V.J hV.J) (hE MM) rfl rfl ?_)
  repeat (first | refine GD ?_ | refine NW fun _ => ?_)
  exact ret1 rfl ⟨rfl, MM⟩
end Go.Proofs.YtanjfjiaheghcaaGreatDoor
/- Contracts of functions of the given program, and plain laws on what they compute: parts of the proofs of laws. -/

namespace Go.Proofs.YtanjfjiaheghcaaGreatDoor
open Go Go.GL

def AppVP (v p : Nat) (V : Vol) (D : Dsk) (R : Except (List (ByteArray × Int) × Int) (Vol × Dsk)) (x : Value) (M : List Assn) : Prop := match R with
  | .ok (V', D') => x = .tuple #[.int .i64 V.J.next, .nilIface] ∧ M = [vol v p V', dsk p D']
  | .error (l, c) => ∃ e E, IsEr (some (l, c)) e E ∧ x = .tuple #[.int .i64 0, e] ∧ M = E ++ [vol v p V, dsk p D]
theorem appEr_ne (J : Jrn) (c : Int) : appEr J c ≠ [] := by unfold appEr; split <;> simp
set_option maxHeartbeats 4000000 in
set_option maxRecDepth 10000 in
theorem vappend_ok (v p : Nat) (V : Vol) (D : Dsk) (at_ : Int) (r : Rec) (hV : V.rng) (hl : 10 + V.J.ring ≤ D.S.length) (hw : D.W.length < 10000) (hsz : r.2.2.2.1.size < 1000000) (hr : r.2.1 = 1 → 0 ≤ r.2.2.1 ∧ r.2.2.1 < 8) :
    Triple G 108 [.pointer (some ⟨v, 0, none⟩), .int .i64 at_, .agg (encR r).toArray] [vol v p V, dsk p D] (AppVP v p V D (appV V D at_ r)) := by
  refine Triple.enter Tryz.func108 rfl (by decide) rfl Tryz.ntmps108 rfl (fun F => ?_)
  refine WC.open P1 (fun j => WC.imp (M := [volB v p j V.J.ring V.laid V.blks, jrn j p V.J, dsk p D, F]) (Imp.refl _) ?_)
  have hap := jappend_ok j p V.J D r hV.J (by omega) hw hsz
  have htk := vtake_ok v p j V.J.ring V.laid V.blks (setSeq r V.J.next) hV.l8 hV.b8 hr
  have hdef : appV V D at_ r = match appendM V.J D r with
    | .ok (J', D') => .ok (⟨J', V.laid, takeV V.blks (setSeq r V.J.next)⟩, D')
    | .error c => .error ((volTx, at_) :: appEr V.J c, c) := rfl
  have hrg : ∀ {J' D'}, appendM V.J D r = .ok (J', D') → J'.ring = V.J.ring := fun h => by
    unfold appendM at h
    split at h
    · cases h
    · split at h
      · cases h; rfl
      · cases h
  unfold AppJ at hap
  unfold AppVP
  rw [hdef]
  obtain ⟨seq, kind, block, data, num⟩ := r
  rw [show setSeq (seq, kind, block, data, num) V.J.next = (V.J.next, kind, block, data, num) from rfl] at *
  have hen : encR (seq, kind, block, data, num) = [.int .i64 seq, .int .i64 kind, .int .i64 block, .string data, .int .i64 num] := rfl
  rw [show encR (V.J.next, kind, block, data, num) = [.int .i64 V.J.next, .int .i64 kind, .int .i64 block, .string data, .int .i64 num] from rfl] at htk
  rw [hen] at *
  cases hq : appendM V.J D (seq, kind, block, data, num) with
  | error c =>
    rw [hq] at hap
    repeat (first | refine GD ?_ | refine NW fun _ => ?_)
    refine RD 5 11 (_) ?_
    refine WP 0 ?_
    refine WP 1 ?_
    refine WP 2 ?_
    refine VV 3 ?_
    refine VL 4 (.agg (encR (seq, kind, block, data, num)).toArray) rfl rfl rfl rfl (.inr ⟨rfl, encR (seq, kind, block, data, num), rfl, rfl, Ent.whole MM⟩) ?_
    refine WH.only 5 rfl rfl (by kernel_rfl) rfl (OP.call (pre := [jrn j p V.J, dsk p D]) rfl rfl hap PS rfl rfl (fun x M hM => ?_))
    obtain ⟨e, E, ⟨ch, hch, rfl, rfl⟩, rfl, rfl⟩ := hM
    cases ch with
    | nil => exact absurd hch.symm (appEr_ne V.J c)
    | cons y ch => ?_
    refine ⟨(fun h => nomatch h), ?_⟩
    refine WP 6 ?_
    refine WP 7 ?_
    refine WP 8 ?_
    refine WP 9 ?_
    refine WP 10 ?_
    refine DN ?_
    repeat (first | refine GD ?_ | refine NW fun _ => ?_)
    refine WL.step rfl (OP.call (pre := [chainR (y :: ch) c]) rfl rfl (vwrong_ok at_ (y :: ch) c (fun h => nomatch h.1)) PS rfl rfl ?_)
    rw [hch]
    rintro x M ⟨ch2, hch2, rfl, rfl⟩
    repeat (first | refine GD ?_ | refine NW fun _ => ?_)
    refine ret2 rfl rfl ⟨[chainR ch2 c] ++ [vol v p V, dsk p D], ⟨_, _, ⟨ch2, hch2, rfl, rfl⟩, rfl, rfl⟩, ?_⟩
    exact Imp.trans II ((volFold v p V j (N := [chainR ch2 c, dsk p D, F])).trans II)
  | ok y =>
    obtain ⟨J', D'⟩ := y
    rw [hq] at hap
    have hrg' := hrg hq
    repeat (first | refine GD ?_ | refine NW fun _ => ?_)
    refine RD 5 11 (_) ?_
    refine WP 0 ?_
    refine WP 1 ?_
    refine WP 2 ?_
    refine VV 3 ?_
    refine VL 4 (.agg (encR (seq, kind, block, data, num)).toArray) rfl rfl rfl rfl (.inr ⟨rfl, encR (seq, kind, block, data, num), rfl, rfl, Ent.whole MM⟩) ?_
    refine WH.only 5 rfl rfl (by kernel_rfl) rfl (OP.call (pre := [jrn j p V.J, dsk p D]) rfl rfl hap PS rfl rfl (fun x M hM => ?_))
    obtain ⟨rfl, rfl⟩ := hM
    refine ⟨(fun h => nomatch h), ?_⟩
    refine WP 6 ?_
    refine WP 7 ?_
    refine WP 8 ?_
    refine WP 9 ?_
    refine WP 10 ?_
    refine DN ?_
    repeat (first | refine GD ?_ | refine NW fun _ => ?_)
    refine WL.step rfl (OP.call (pre := [volB v p j V.J.ring V.laid V.blks]) rfl rfl htk PS rfl rfl ?_)
    rintro _ _ ⟨rfl, rfl⟩
    repeat (first | refine GD ?_ | refine NW fun _ => ?_)
    refine ret2 rfl rfl ⟨[vol v p ⟨J', V.laid, takeV V.blks (V.J.next, kind, block, data, num)⟩, dsk p D'], ⟨rfl, rfl⟩, ?_⟩
    refine Imp.trans ?_ (volFold v p ⟨J', V.laid, takeV V.blks (V.J.next, kind, block, data, num)⟩ j)
    dsimp only
    rw [hrg']
    exact II
set_option maxRecDepth 10000 in
theorem vwrite_ok (v p : Nat) (V : Vol) (D : Dsk) (block : Int) (data : ByteArray) (hV : V.rng) (hl : 10 + V.J.ring ≤ D.S.length) (hw : D.W.length < 10000) (hsz : data.size < 1000000) :
    Triple G 98 [.pointer (some ⟨v, 0, none⟩), .int .i64 block, .string data] [vol v p V, dsk p D] (AppVP v p V D (writeV V D block data)) := by
  refine Triple.enter Tryz.func98 rfl (by decide) rfl Tryz.ntmps98 rfl (fun F => ?_)
  unfold AppVP writeV
  repeat (first | refine GD ?_ | refine NW fun _ => ?_)
  refine WL.step rfl (OP.callRT rfl rfl (vthere_rt v block) (fun _ _ => trivial) rfl rfl ?_)
  by_cases hb : 0 ≤ block ∧ block < 8
  rotate_left
  · rw [if_neg hb, if_pos hb]
    rintro _ _ ⟨ch, h1, rfl, rfl⟩
    cases ch with
    | nil => cases h1
    | cons x r =>
      dsimp only [valOf]
      repeat (first | refine GD ?_ | refine NW fun _ => ?_)
      exact ret2 rfl rfl ⟨[chainR (x :: r) 5] ++ [vol v p V, dsk p D], ⟨_, _, ⟨x :: r, h1, rfl, rfl⟩, rfl, rfl⟩, II⟩
  rw [if_pos hb, if_neg (fun h => h hb)]
  rintro _ _ ⟨rfl, rfl⟩
  by_cases h16 : 16 < data.size
  · rw [if_pos h16]
    repeat (first | refine GD ?_ | refine NW fun _ => ?_)
    refine WL.step rfl (OP.call (pre := []) rfl rfl (vwrong0_ok block 1 (by decide)) PS rfl rfl ?_)
    intro x M hF
    repeat (first | refine GD ?_ | refine NW fun _ => ?_)
    exact ret2 rfl rfl ⟨M ++ [vol v p V, dsk p D], ⟨x, M, hF, rfl, rfl⟩, by rw [List.append_assoc]; exact Imp.appL II M⟩
  rw [if_neg h16]
  have hap := vappend_ok v p V D block (0, 1, block, data, 0) hV hl hw hsz (fun _ => hb)
  unfold AppVP at hap
  rw [show encR (0, 1, block, data, 0) = [.int .i64 0, .int .i64 1, .int .i64 block, .string data, .int .i64 0] from rfl] at hap
  repeat (first | refine GD ?_ | refine NW fun _ => ?_)
  refine WL.step rfl (OP.call (pre := [vol v p V, dsk p D]) rfl rfl hap PS rfl rfl ?_)
  intro x M hM
  cases hq : appV V D block (0, 1, block, data, 0) with
  | ok y =>
    rw [hq] at hM
    obtain ⟨rfl, rfl⟩ := hM
    repeat (first | refine GD ?_ | refine NW fun _ => ?_)
    exact ret2 rfl rfl ⟨_, ⟨rfl, rfl⟩, Imp.refl _⟩
  | error y =>
    rw [hq] at hM
    obtain ⟨e, E, hE, rfl, rfl⟩ := hM
    repeat (first | refine GD ?_ | refine NW fun _ => ?_)
    exact ret2 rfl rfl ⟨_, ⟨e, E, hE, rfl, rfl⟩, Imp.refl _⟩
set_option maxRecDepth 10000 in
theorem vmark_ok (v p : Nat) (V : Vol) (D : Dsk) (number : Int) (hV : V.rng) (hl : 10 + V.J.ring ≤ D.S.length) (hw : D.W.length < 10000) :
    Triple G 69 [.pointer (some ⟨v, 0, none⟩), .int .i64 number] [vol v p V, dsk p D] (AppVP v p V D (markV V D number)) := by
  refine Triple.enter Tryz.func69 rfl (by decide) rfl Tryz.ntmps69 rfl (fun F => ?_)
  unfold AppVP markV
  have hap := vappend_ok v p V D number (0, 2, 0, ⟨#[]⟩, number) hV hl hw (by show 0 < 1000000; decide) (fun h => by cases h)
  unfold AppVP at hap
  rw [show encR (0, 2, 0, ⟨#[]⟩, number) = [.int .i64 0, .int .i64 2, .int .i64 0, .string ⟨#[]⟩, .int .i64 number] from rfl] at hap
  repeat (first | refine GD ?_ | refine NW fun _ => ?_)
  refine WL.step rfl (OP.call (pre := [vol v p V, dsk p D]) rfl rfl hap PS rfl rfl ?_)
  intro x M hM
  cases hq : appV V D number (0, 2, 0, ⟨#[]⟩, number) with
  | ok y =>
    rw [hq] at hM
    obtain ⟨rfl, rfl⟩ := hM
    repeat (first | refine GD ?_ | refine NW fun _ => ?_)
    exact ret2 rfl rfl ⟨_, ⟨rfl, rfl⟩, Imp.refl _⟩
  | error y =>
    rw [hq] at hM
    obtain ⟨e, E, hE, rfl, rfl⟩ := hM
    repeat (first | refine GD ?_ | refine NW fun _ => ?_)
    exact ret2 rfl rfl ⟨_, ⟨e, E, hE, rfl, rfl⟩, Imp.refl _⟩
end Go.Proofs.YtanjfjiaheghcaaGreatDoor
/- an element of several cells of an array that is a value. -/
namespace Go.GL
open Go
section
variable {G : Ctx} {N : Nat} {env : Env} {L : List Assn} {o : Oper} {post : Env → List Assn → Prop} {d : Nat}
theorem OP.indexA {t e : TypeId} {x ix : Operand} {ti te : TI} {k : IntKind} {i len : Nat} {cs vs : List Value} (ho : o.op = .index t x ix) (hx : rd none env x = some (none, .agg cs.toArray)) (hi : rd none env ix = some (none, .int k i))
    (ht : G.T.find t = some ti) (hd1 : ti.desc = .array len e) (hte : G.T.find e = some te) (hag : te.agg = true) (hlt : i < len) (hv : (cs.drop (i * te.size)).take te.size = vs) (hd : o.dst = some d) (hN : Nat.blt d N = true) (h : post ((d, .val (.agg vs.toArray)) :: env) L) : OP G N o env L post :=
  .run (fun a w ha _ => by
    have u : G.P.underlying t = some (.array len e) := hd1 ▸ (Tab.find_ok G.ok ht).desc
    rw [execOp, ho]
    simp [Instr.index, rd_plain hx ha, rd_plain hi ha, asIntOf, run_underlying u, run_size (Tab.find_ok G.ok hte), part, run_isAgg (Tab.find_ok G.ok hte), hag, hlt, hv]) hd hN h
end
end Go.GL
/- Contracts of functions of the given program, and plain laws on what they compute: parts of the proofs of laws. -/

namespace Go.Proofs.YtanjfjiaheghcaaGreatDoor
open Go Go.GL

theorem uptoV_snoc (h : List Held) (x : Held) (n : Int) : uptoV (h ++ [x]) n = if x.2.1 ≤ n then uptoV h n + 1 else uptoV h n := by
  unfold uptoV
  rw [List.filter_append]
  by_cases hx : x.2.1 ≤ n
  · rw [if_pos hx, List.filter_cons_of_pos (by simpa using hx)]
    simp
  · rw [if_neg hx, List.filter_cons_of_neg (by simpa using hx)]
    simp
set_option maxHeartbeats 2000000 in
set_option maxRecDepth 10000 in
theorem vupto_ro (v p : Nat) (V : Vol) (number : Int) (hV : V.rng) : RO G 119 [.pointer (some ⟨v, 0, none⟩), .int .i64 number] (vol v p V) (.int .i64 (uptoV V.J.held number : Nat)) := by
  refine RO.enterEx Tryz.func119 rfl (by decide) rfl Tryz.ntmps119 rfl (fun j A hu hA => ?_)
  have hC : ∀ {L} {i : Nat} {x : Value}, (volC p j V.J.ring V.laid V.blks)[i]? = some x → A ∈ L → Ent L (cellAt v i x) := fun h m => Ent.of hu hA m (Ent.volAt (List.Mem.head _) h)
  have hE : ∀ {L}, A ∈ L → Ent L (jrn j p V.J) := fun m => Ent.of hu hA m (Ent.at (up_jrn j p V.J) (List.Mem.tail _ (List.Mem.head _)))
  have hlR : ∀ x : Held, (encR x.2).length = 5 := fun _ => rfl
  have hfew : V.J.held.length ≤ 512 := by have h1 := hV.J.2; have h2 := hV.J.1; omega
  repeat (first | refine GD ?_ | refine NW fun _ => ?_)
  refine WL.step rfl (OP.load1 (v := .pointer (some ⟨j, 0, none⟩)) rfl rfl rfl rfl (hC (i := 2) rfl MM) rfl rfl ?_)
  repeat (first | refine GD ?_ | refine NW fun _ => ?_)
  refine WL.step rfl (OP.callRT rfl rfl (jrecords_rt j p V.J hV.J) (hE MM) rfl rfl ?_)
  rintro _ _ ⟨ar, capr, rfl, rfl⟩
  repeat (first | refine GD ?_ | refine NW fun _ => ?_)
  refine WC.loop (σ := Nat) (fun i => i ≤ V.J.held.length)
    (fun i => [(1, .val (.int .i64 number)), (5, .val (.int .i64 (uptoV (V.J.held.take i) number : Nat))), (12, .val (.slice ar V.J.held.length capr)), (13, .val (.int .i64 V.J.held.length)), (14, .val (.int .i64 i))])
    (fun _ => [ownS ar V.J.held.length capr 140 5 (V.J.held.flatMap (fun x => encR x.2)), A]) (fun i => V.J.held.length - i) 0 (Nat.zero_le _) ⟨rfl, rfl, rfl, rfl, rfl, trivial⟩ (Imp.refl _) ?_
  rintro i hi
  by_cases hlt : i < V.J.held.length
  rotate_left
  · have he : i = V.J.held.length := by omega
    subst he
    rw [List.take_length]
    repeat (first | refine GD ?_ | refine NW fun _ => ?_)
    exact ret1 rfl ⟨rfl, MM⟩
  have hsn : uptoV (V.J.held.take (i + 1)) number = if V.J.held[i].2.1 ≤ number then uptoV (V.J.held.take i) number + 1 else uptoV (V.J.held.take i) number := by
    rw [← List.take_append_getElem hlt, uptoV_snoc]
  have hle := uptoV_le (V.J.held.take i) number
  rw [List.length_take] at hle
  generalize uptoV (V.J.held.take i) number = m at *
  refine WC.fact (Ent.some (Ent.own (a := ar) (n := V.J.held.length) (cap := capr) (T := 140) (size := 5) (cs := V.J.held.flatMap (fun x => encR x.2)) MM) (by omega)) ?_
  rintro ⟨b, off, hx⟩
  rw [hx]
  repeat (first | refine GD ?_ | refine NW fun _ => ?_)
  refine WL.step rfl (OP.loadA (l := encR V.J.held[i].2) rfl rfl rfl rfl (Ent.elA hlR (Ent.own (T := 140) MM) hlt) rfl rfl rfl ?_)
  generalize V.J.held[i] = e at *
  obtain ⟨g, seq, kind, block, data, num⟩ := e
  dsimp only at hsn
  by_cases hc : seq ≤ number
  · rw [if_pos hc] at hsn
    repeat (first | refine GD ?_ | refine NW fun _ => ?_)
    exact ⟨i + 1, by omega, by omega, ⟨rfl, by rw [hsn]; rfl, rfl, rfl, rfl, trivial⟩, II⟩
  · rw [if_neg hc] at hsn
    repeat (first | refine GD ?_ | refine NW fun _ => ?_)
    exact ⟨i + 1, by omega, by omega, ⟨rfl, by rw [hsn]; rfl, rfl, rfl, rfl, trivial⟩, II⟩
end Go.Proofs.YtanjfjiaheghcaaGreatDoor
/- Contracts of functions of the given program, and plain laws on what they compute: parts of the proofs of laws. -/

namespace Go.Proofs.YtanjfjiaheghcaaGreatDoor
open Go Go.GL

theorem volC_setB {p j ring : Nat} {laid blks : List Plc} (h1 : laid.length = 8) (h2 : blks.length = 8) : setMany (volC p j ring laid blks) 3 (blks.flatMap plcC) = some (volC p j ring blks blks) := by
  exact setMany_mid (blks.flatMap plcC) [Value.pointer (some ⟨p, 0, none⟩), .int .i64 ring, .pointer (some ⟨j, 0, none⟩)] (laid.flatMap plcC) (blks.flatMap plcC) (by rw [flat_len plcC_len, flat_len plcC_len, h1, h2])
theorem volC_lay {p j ring : Nat} {laid blks : List Plc} {b i : Nat} (hb : b < laid.length) (hi : i < 2) : (volC p j ring laid blks)[3 + b * 2 + i]? = (plcC laid[b])[i]? := by
  have hl : (laid.flatMap plcC).length = laid.length * 2 := flat_len plcC_len laid
  unfold volC
  rw [List.append_assoc, List.getElem?_append_right (by show 3 ≤ _; omega), List.getElem?_append_left (by rw [hl]; show 3 + b * 2 + i - 3 < _; omega)]
  simp only [List.length_cons, List.length_nil]
  rw [show 3 + b * 2 + i - (0 + 1 + 1 + 1) = b * 2 + i by omega]
  exact flat_get plcC_len laid b i hb hi
theorem Ent.volBlks {L : List Assn} {v p j ring : Nat} {laid blks : List Plc} (h1 : laid.length = 8) (m : volB v p j ring laid blks ∈ L) : Ent L (cellsAt v 19 (blks.flatMap plcC)) :=
  Ent.mem m (up_blk _ _ _) fun h ⟨fr, hb, _⟩ => ⟨_, _, fr, hb, fun i x hi => by
    have hl : ([Value.pointer (some ⟨p, 0, none⟩), .int .i64 ring, .pointer (some ⟨j, 0, none⟩)] ++ laid.flatMap plcC).length = 19 := by
      rw [List.length_append, flat_len plcC_len, h1]; rfl
    unfold volC
    rw [List.getElem?_toArray, List.getElem?_append_right (by rw [hl]; omega), hl, Nat.add_sub_cancel_left]
    exact hi⟩
theorem trimM_ok {J : Jrn} {D : Dsk} {k : Nat} (h : k ≤ J.held.length) : ∃ J' D', trimM J D k = .ok (J', D') ∧ J'.ring = J.ring := by
  unfold trimM
  rw [if_neg (by omega)]
  split
  · exact ⟨_, _, rfl, rfl⟩
  · exact ⟨_, _, rfl, rfl⟩
def CkVP (v p : Nat) (V : Vol) (D : Dsk) (upto : Int) (x : Value) (M : List Assn) : Prop := match ckV V D upto with
  | .ok (V', D') => x = .nilIface ∧ M = [vol v p V', dsk p D']
  | .error (l, c) => ∃ E, IsEr (some (l, c)) x E ∧ M = E ++ [vol v p V, dsk p D]
set_option maxHeartbeats 4000000 in
set_option maxRecDepth 10000 in
theorem vcheck_ok (v p : Nat) (V : Vol) (D : Dsk) (upto : Int) (hV : V.rng) (hD : D.ok) (hl : 10 + V.J.ring ≤ D.S.length) (hw : D.W.length < 9000) :
    Triple G 80 [.pointer (some ⟨v, 0, none⟩), .int .i64 upto] [vol v p V, dsk p D] (CkVP v p V D upto) := by
  refine Triple.enter Tryz.func80 rfl (by decide) rfl Tryz.ntmps80 rfl (fun F => ?_)
  have hdef : ckV V D upto = if upto < 0 ∨ V.J.next ≤ upto then .error ([(volTx, upto)], 5)
    else match trimM V.J (layV V D) (uptoV V.J.held upto) with
      | .ok (J', D') => .ok (⟨J', V.blks, V.blks⟩, D')
      | .error c => .error ([(jrnTx, (uptoV V.J.held upto : Nat))], c) := rfl
  unfold CkVP
  rw [hdef]
  by_cases h1 : upto < 0
  · rw [if_pos (.inl h1)]
    repeat (first | refine GD ?_ | refine NW fun _ => ?_)
    refine WL.step rfl (OP.call (pre := []) rfl rfl (vwrong0_ok upto 5 (by decide)) PS rfl rfl ?_)
    intro x M hF
    repeat (first | refine GD ?_ | refine NW fun _ => ?_)
    exact ret1 rfl ⟨M ++ [vol v p V, dsk p D], ⟨M, hF, rfl⟩, by rw [List.append_assoc]; exact Imp.appL II M⟩
  repeat (first | refine GD ?_ | refine NW fun _ => ?_)
  refine WL.guardT rfl rfl rfl rfl (OP.callRO rfl rfl (vnext_ro v p V hV) (Ent.at (up_vol v p V) MM) rfl rfl ?_)
  by_cases h2 : V.J.next ≤ upto
  · rw [if_pos (.inr h2)]
    repeat (first | refine GD ?_ | refine NW fun _ => ?_)
    refine WL.step rfl (OP.call (pre := []) rfl rfl (vwrong0_ok upto 5 (by decide)) PS rfl rfl ?_)
    intro x M hF
    repeat (first | refine GD ?_ | refine NW fun _ => ?_)
    exact ret1 rfl ⟨M ++ [vol v p V, dsk p D], ⟨M, hF, rfl⟩, by rw [List.append_assoc]; exact Imp.appL II M⟩
  rw [if_neg (fun h => h.elim h1 h2)]
  obtain ⟨J', D', htr, hrg⟩ := trimM_ok (D := layV V D) (uptoV_le V.J.held upto)
  rw [htr]
  refine WL.open P1 (fun j => WL.imp (M := [volB v p j V.J.ring V.laid V.blks, jrn j p V.J, dsk p D, F]) (Imp.refl _) ?_)
  have hJ := hV.J
  have hfl : D.flush.ok := Dsk.settle_ok hD _
  have hfs : D.flush.S.length = D.S.length := Dsk.settle_len D _
  have hfw : D.flush.W.length = 0 := rfl
  repeat (first | refine GD ?_ | refine NW fun _ => ?_)
  refine WL.step rfl (OP.call (pre := [jrn j p V.J, dsk p D]) rfl rfl (jflush_ok j p V.J D hD (by omega)) PS rfl rfl ?_)
  rintro _ _ ⟨rfl, rfl⟩
  have hlc : (V.blks.flatMap plcC).length = 16 := by rw [flat_len plcC_len, hV.b8]
  have h1l : ∀ l : List Plc, allOne (l.flatMap plcC) = true := fun l => by
    induction l with
    | nil => rfl
    | cons x r ih => rw [List.flatMap_cons]; simpa [plcC, allOne, one] using ih
  repeat (first | refine GD ?_ | refine NW fun _ => ?_)
  refine WL.step rfl (OP.loadA (l := V.blks.flatMap plcC) rfl rfl rfl rfl (Ent.volBlks hV.l8 MM) hlc rfl rfl ?_)
  repeat (first | refine GD ?_ | refine NW fun _ => ?_)
  refine WC.loop (σ := Nat) (fun k => k ≤ 8)
    (fun k => [(0, .val (.pointer (some ⟨v, 0, none⟩))), (1, .val (.int .i64 upto)), (30, .val (.agg (V.blks.flatMap plcC).toArray)), (31, .val (.int .i64 k))])
    (fun k => [volB v p j V.J.ring V.laid V.blks, jrn j p V.J, dsk p (layF V.J.ring V.laid V.blks k D.flush), F]) (fun k => 8 - k) 0 (Nat.zero_le _) ⟨rfl, rfl, rfl, rfl, trivial⟩ II ?_
  rintro k hk
  have hko := layF_ok V.J.ring V.laid V.blks hV.b8 hV.s hfl (by omega) k hk
  have hkl := layF_len V.J.ring V.laid V.blks k D.flush
  have hkw := layF_w V.J.ring V.laid V.blks k D.flush
  by_cases hlt : k < 8
  rotate_left
  · have he : k = 8 := by omega
    subst he
    have hlay8 : layV V D = (layF V.J.ring V.laid V.blks 8 D.flush).flush := rfl
    rw [hlay8] at htr
    generalize layF V.J.ring V.laid V.blks 8 D.flush = D8 at *
    have hV8 : (⟨V.J, V.blks, V.blks⟩ : Vol).rng := ⟨hV.J, hV.b8, hV.b8, hV.s⟩
    have hf8 : D8.flush.ok := Dsk.settle_ok hko _
    have hs8 : D8.flush.S.length = D8.S.length := Dsk.settle_len D8 _
    have hw8 : D8.flush.W.length = 0 := rfl
    have htj := jtrim_ok j p V.J D8.flush (uptoV V.J.held upto : Nat) hV.J hf8 (by omega) (by omega)
    unfold TrimJ at htj
    rw [htr] at htj
    have hup := vupto_ro v p ⟨V.J, V.blks, V.blks⟩ upto hV8
    repeat (first | refine GD ?_ | refine NW fun _ => ?_)
    refine WL.step rfl (OP.loadA (l := V.blks.flatMap plcC) rfl rfl rfl rfl (Ent.volBlks hV.l8 MM) hlc rfl rfl ?_)
    repeat (first | refine GD ?_ | refine NW fun _ => ?_)
    refine WL.step rfl (OP.store (vs := V.blks.flatMap plcC) (M := [volB v p j V.J.ring V.blks V.blks, jrn j p V.J, dsk p D8, F]) rfl rfl rfl rfl rfl (h1l _) hlc (UpdM.here (by rw [Nat.zero_add]; exact volC_setB hV.l8 hV.b8)) rfl ?_)
    repeat (first | refine GD ?_ | refine NW fun _ => ?_)
    refine WL.step rfl (OP.call (pre := [dsk p D8]) rfl rfl (dflush_ok p D8 hko (by omega)) PS rfl rfl ?_)
    rintro _ _ ⟨rfl, rfl⟩
    repeat (first | refine GD ?_ | refine NW fun _ => ?_)
    refine RD 7 9 (_) ?_
    refine WP 0 ?_
    refine WP 1 ?_
    refine WP 2 ?_
    refine VV 3 ?_
    refine WP 4 ?_
    refine WP 5 ?_
    refine WH.only 6 rfl rfl (by kernel_rfl) rfl (OP.callRO rfl rfl (hup) (Ent.exI (Ls := fun j : Nat => [volB v p j V.J.ring V.blks V.blks, jrn j p V.J]) j II) rfl rfl ⟨fun _ => II, ?_⟩)
    refine WH.only 7 rfl rfl (by kernel_rfl) rfl (OP.call (pre := [jrn j p V.J, dsk p D8.flush]) rfl rfl htj PS rfl rfl (fun x M hM => ?_))
    obtain ⟨rfl, rfl⟩ := hM
    refine ⟨(fun h => nomatch h), ?_⟩
    refine WP 8 ?_
    refine DN ?_
    repeat (first | refine GD ?_ | refine NW fun _ => ?_)
    refine ret1 rfl ⟨[vol v p ⟨J', V.blks, V.blks⟩, dsk p D'], ⟨rfl, rfl⟩, ?_⟩
    refine Imp.trans ?_ (volFold v p ⟨J', V.blks, V.blks⟩ j)
    dsimp only
    rw [hrg]
    exact II
  have hlb : k < V.blks.length := by rw [hV.b8]; exact hlt
  have hll : k < V.laid.length := by rw [hV.l8]; exact hlt
  have hst : layF V.J.ring V.laid V.blks (k + 1) D.flush = if (V.laid[k]).1 < (V.blks[k]).1 then (layF V.J.ring V.laid V.blks k D.flush).put (2 + V.J.ring + k) (plcS V.blks[k] k) else layF V.J.ring V.laid V.blks k D.flush := by
    rw [layF, List.getD_eq_getElem?_getD, List.getD_eq_getElem?_getD, List.getElem?_eq_getElem hlb, List.getElem?_eq_getElem hll, Option.getD_some, Option.getD_some]
  have hlay := volC_lay (p := p) (j := j) (ring := V.J.ring) (blks := V.blks) (i := 0) hll (by decide)
  have hsz := hV.s _ (List.getElem_mem hlb)
  repeat (first | refine GD ?_ | refine NW fun _ => ?_)
  refine WL.step rfl (OP.indexA (vs := plcC V.blks[k]) rfl rfl rfl rfl rfl rfl rfl hlt (flat_cut plcC_len V.blks k hlb).symm rfl rfl ?_)
  repeat (first | refine GD ?_ | refine NW fun _ => ?_)
  refine RD 10 10 (_) ?_
  refine WP 0 ?_
  refine VV 1 ?_
  refine WP 2 ?_
  refine WP 3 ?_
  refine WP 4 ?_
  refine WP 5 ?_
  refine WP 6 ?_
  refine WP 7 ?_
  refine VL 8 (.int .i64 (V.laid[k]).1) rfl rfl rfl rfl (.inl ⟨rfl, Ent.volAt MM hlay⟩) ?_
  refine WP 9 ?_
  refine DN ?_
  by_cases hc : (V.laid[k]).1 < (V.blks[k]).1
  rotate_left
  · rw [if_neg hc] at hst
    rw [decide_eq_false hc]
    repeat (first | refine GD ?_ | refine NW fun _ => ?_)
    exact ⟨k + 1, by omega, by omega, ⟨rfl, rfl, rfl, rfl, trivial⟩, by rw [hst]; exact II⟩
  rw [if_pos hc] at hst
  rw [decide_eq_true hc]
  generalize layF V.J.ring V.laid V.blks k D.flush = Dk at *
  have hwr := fun a cap => dwrite_ok p Dk (2 + V.J.ring + k : Nat) (plcS V.blks[k] k) a cap (by omega) (by rw [plcS_len hsz]; decide)
  have hwd : ((2 + V.J.ring + k : Nat) : Int) = 2 + (V.J.ring : Int) + k := by omega
  rw [hwd] at hwr
  have hps := psector_rt V.blks[k] k hsz
  have hS64 := plcS_len (block := k) hsz
  generalize plcS V.blks[k] k = S at *
  have hpl : plcC V.blks[k] = [.int .i64 (V.blks[k]).1, .string (V.blks[k]).2] := rfl
  repeat (first | refine GD ?_ | refine NW fun _ => ?_)
  refine RD 10 11 (_) ?_
  refine WP 0 ?_
  refine WP 1 ?_
  refine WP 2 ?_
  refine VV 3 ?_
  refine WP 4 ?_
  refine WP 5 ?_
  refine VL 7 (.agg (plcC V.blks[k]).toArray) rfl rfl rfl rfl (.inr ⟨rfl, plcC V.blks[k], rfl, rfl, Ent.whole MM⟩) ?_
  refine WP 8 ?_
  refine WH.only 6 rfl rfl (by kernel_rfl) rfl (OP.callRO rfl rfl (vat_ro v p j V.J.ring V.laid V.blks k (by omega) (by have := hV.J.1; omega)) (Ent.at (up_blk _ _ _) MM) rfl rfl ⟨fun _ => II, ?_⟩)
  refine WH.only 9 rfl rfl (by kernel_rfl) rfl (OP.callRT rfl rfl hps (fun _ _ => trivial) rfl rfl (fun x E hE' => ?_))
  obtain ⟨a9, cap9, rfl, rfl⟩ := hE'
  refine ⟨fun _ => II, ?_⟩
  refine WH.only 10 rfl rfl (by kernel_rfl) rfl (OP.call (pre := [dsk p Dk, ownS a9 S.length cap9 5 1 (S.map byteV)]) rfl rfl (hwr a9 cap9) PS rfl rfl (fun x M hM => ?_))
  unfold WrPost at hM
  rw [if_pos ⟨by omega, hS64⟩, ← hwd, Int.toNat_natCast] at hM
  obtain ⟨rfl, rfl⟩ := hM
  refine ⟨(fun h => nomatch h), ?_⟩
  refine DN ?_
  repeat (first | refine GD ?_ | refine NW fun _ => ?_)
  exact ⟨k + 1, by omega, by omega, ⟨rfl, rfl, rfl, rfl, trivial⟩, by rw [hst]; exact II⟩
end Go.Proofs.YtanjfjiaheghcaaGreatDoor
/- Contracts of functions of the given program, and plain laws on what they compute: parts of the proofs of laws. -/
namespace Go.Proofs.YtanjfjiaheghcaaGreatDoor
open Go Go.GL

/-- what holds of a primary that is up -/
structure PInv (P : Pri) (B : Int) : Prop where
  V : VInv P.V P.D P.V.J.held.length B
  len : P.V.J.ring + 11 ≤ P.D.S.length
  fl : P.D.S.getD (P.V.J.ring + 10) [] = floorS P.floor
  fr : 0 ≤ P.floor ∧ P.floor ≤ widest
  lat : P.G.latest = P.floor
  rnd : P.G.round = 0 ∨ P.G.round = P.floor
  left : 0 ≤ P.G.left ∧ P.G.left ≤ 6
  few : P.G.wait.length ≤ 4
  wr : ∀ c ∈ P.G.wait, RightC c
  opn : P.G.round = 0 → P.G.wait = []
  ack : P.acked = P.V.J.hd.first - 1
  st : (0 ≤ P.S.now ∧ P.S.now ≤ big60) ∧ 0 ≤ P.S.til ∧ P.S.til ≤ big60 + 10
theorem st0_ok : (0 ≤ st0.now ∧ st0.now ≤ big60) ∧ 0 ≤ st0.til ∧ st0.til ≤ big60 + 10 := by decide
theorem widest_eq : widest = 1152921504606846975 := rfl
theorem big60_eq : big60 = 1152921504606846976 := rfl
theorem PInv.W {P : Pri} {B : Int} (I : PInv P B) : P.D.W = [] := by
  have := I.V.j.loose
  rw [List.drop_eq_nil_of_le (Nat.le_refl _)] at this
  exact this
theorem PInv.mono {P : Pri} {B B' : Int} (I : PInv P B) (h : B ≤ B') : PInv P B' := { I with V := I.V.mono h }
theorem St.at_ok {s : St} (h : (0 ≤ s.now ∧ s.now ≤ big60) ∧ 0 ≤ s.til ∧ s.til ≤ big60 + 10) (now : Int) : (0 ≤ (s.at_ now).now ∧ (s.at_ now).now ≤ big60) ∧ 0 ≤ (s.at_ now).til ∧ (s.at_ now).til ≤ big60 + 10 := by
  have := big60_eq
  refine ⟨?_, h.2⟩
  show 0 ≤ max s.now (min now big60) ∧ max s.now (min now big60) ≤ big60
  omega
theorem PInv.at_ {P : Pri} {B : Int} (I : PInv P B) (now : Int) : PInv (P.at_ now) B := { I with st := St.at_ok I.st now }
theorem PInv.rng {P : Pri} {B : Int} (I : PInv P B) (hB : B + 2 ≤ widest) : P.V.rng := I.V.rng hB
/-- a sector behind a write that is flushed -/
theorem put_flush_get {D : Dsk} (hW : D.W = []) {i p : Nat} {x : List UInt8} (hp : p < D.S.length) : (D.put i x).flush.S.getD p [] = if i = p then x else D.S.getD p [] := by
  have h := Dsk.flush_cur (D.put i x) (i := p) hp
  have h2 : (D.put i x).flush.cur p = (D.put i x).flush.S.getD p [] := rfl
  rw [← h2, h]
  show curF p _ (D.W ++ [(i, x)]) = _
  rw [curF_snoc, hW]
  rfl
theorem put_flush_len {D : Dsk} {i : Nat} {x : List UInt8} : (D.put i x).flush.S.length = D.S.length := Dsk.settle_len _ _
theorem sz_right {c : Call} (hc : RightC c) {n : Int} (hn : 1 ≤ n ∧ n ≤ widest) : RightR (setSeq (0, 1, c.2.1, c.2.2, 0) n) := ⟨hn, .inr ⟨rfl, hc.1, hc.2, rfl⟩⟩
/-- a write that is right is done, unless the ring is full -/
theorem PInv.do_ {P : Pri} {B : Int} (I : PInv P B) (hB : B + 4 ≤ widest) {c : Call} (hc : RightC c) :
    (P.V.J.held.length = P.V.J.ring ∧ doP P c = .error ((volTx, c.2.1) :: appEr P.V.J 6, 6)) ∨
    (P.V.J.held.length ≠ P.V.J.ring ∧ ∃ P', doP P c = .ok (P.V.J.next, P') ∧ PInv P' (B + 2) ∧ P'.V.J.held = P.V.J.held ++ [(P.V.J.hd.gen, (P.V.J.next, 1, c.2.1, c.2.2, 0))] ∧ P'.V.blks = P.V.blks.set c.2.1.toNat (P.V.J.next, c.2.2)
      ∧ P'.V.J.hd = P.V.J.hd ∧ P'.V.J.ring = P.V.J.ring ∧ P'.G = P.G ∧ P'.S = P.S ∧ P'.marked = P.marked ∧ P'.floor = P.floor ∧ P'.acked = P.acked ∧ P'.D.S.length = P.D.S.length) := by
  have hw := widest_eq
  have h1 := I.V.j.hdr
  have h2 := I.V.j.bound
  have hb8 := I.V.b8
  obtain ⟨⟨hc1, hc2⟩, hc3⟩ := id hc
  have hwr : ∀ P : Pri, writeV P.V P.D c.2.1 c.2.2 = appV P.V P.D c.2.1 (0, 1, c.2.1, c.2.2, 0) := fun P => by
    unfold writeV
    rw [if_neg (fun h => h ⟨hc1, hc2⟩), if_neg (by omega)]
  by_cases hf : P.V.J.held.length = P.V.J.ring
  · refine .inl ⟨hf, ?_⟩
    unfold doP
    rw [hwr]
    unfold appV appendM
    rw [if_pos hf]
  · refine .inr ⟨hf, ?_⟩
    have hap : appendM P.V.J P.D (0, 1, c.2.1, c.2.2, 0) = .ok ({ P.V.J with held := P.V.J.held ++ [(P.V.J.hd.gen, setSeq (0, 1, c.2.1, c.2.2, 0) P.V.J.next)] }, P.D.put (posM P.V.J.ring P.V.J.next) (sectorM (bodyM P.V.J.hd.gen (setSeq (0, 1, c.2.1, c.2.2, 0) P.V.J.next)))) := by
      unfold appendM
      rw [if_neg hf, if_pos]
      refine ⟨sz_right hc ?_, by omega⟩
      unfold Jrn.next
      omega
    have hav : appV P.V P.D c.2.1 (0, 1, c.2.1, c.2.2, 0) = .ok (⟨{ P.V.J with held := P.V.J.held ++ [(P.V.J.hd.gen, setSeq (0, 1, c.2.1, c.2.2, 0) P.V.J.next)] }, P.V.laid, takeV P.V.blks (setSeq (0, 1, c.2.1, c.2.2, 0) P.V.J.next)⟩, P.D.put (posM P.V.J.ring P.V.J.next) (sectorM (bodyM P.V.J.hd.gen (setSeq (0, 1, c.2.1, c.2.2, 0) P.V.J.next)))) := by
      unfold appV
      rw [hap]
    obtain ⟨I2, e1, e2, e3, e4, e5⟩ := I.V.append hav
    have hr := pos_bd I.V.j.ring.1 P.V.J.next
    have hlen := I.len
    have htk : takeV P.V.blks (setSeq (0, 1, c.2.1, c.2.2, 0) P.V.J.next) = P.V.blks.set c.2.1.toNat (P.V.J.next, c.2.2) := by
      unfold takeV
      have hlt : c.2.1.toNat < P.V.blks.length := by omega
      have hx := I.V.blkN _ (List.getElem_mem hlt)
      rw [if_pos ⟨rfl, by show (P.V.blks.getD c.2.1.toNat plc0).1 < P.V.J.next; rw [getD_lt hlt]; exact hx.1.2⟩]
      rfl
    have hdo : doP P c = .ok (P.V.J.next, { P with V := ⟨{ P.V.J with held := P.V.J.held ++ [(P.V.J.hd.gen, setSeq (0, 1, c.2.1, c.2.2, 0) P.V.J.next)] }, P.V.laid, takeV P.V.blks (setSeq (0, 1, c.2.1, c.2.2, 0) P.V.J.next)⟩, D := (P.D.put (posM P.V.J.ring P.V.J.next) (sectorM (bodyM P.V.J.hd.gen (setSeq (0, 1, c.2.1, c.2.2, 0) P.V.J.next)))).flush }) := by unfold doP; rw [hwr, hav]
    refine ⟨_, hdo, ⟨I2.flush (by omega), ?_, ?_, I.fr, I.lat, I.rnd, I.left, I.few, I.wr, I.opn, I.ack, I.st⟩, rfl, htk, rfl, rfl, rfl, rfl, rfl, rfl, rfl, put_flush_len⟩
    · show P.V.J.ring + 11 ≤ (P.D.put _ _).flush.S.length
      rw [put_flush_len]
      exact hlen
    · show (P.D.put _ _).flush.S.getD (P.V.J.ring + 10) [] = floorS P.floor
      rw [put_flush_get I.W (by omega), if_neg (by omega)]
      exact I.fl
/-- the same, of a marker -/
theorem PInv.mark {P : Pri} {B : Int} (I : PInv P B) (hB : B + 4 ≤ widest) {n : Int} (hn : 1 ≤ n ∧ n ≤ widest) :
    (P.V.J.held.length = P.V.J.ring ∧ markV P.V P.D n = .error ((volTx, n) :: appEr P.V.J 6, 6)) ∨
    (P.V.J.held.length ≠ P.V.J.ring ∧ ∃ V' D', markV P.V P.D n = .ok (V', D') ∧ PInv { P with V := V', D := D'.flush, marked := n } (B + 2) ∧ V'.J.held = P.V.J.held ++ [(P.V.J.hd.gen, (P.V.J.next, 2, 0, ⟨#[]⟩, n))] ∧ V'.blks = P.V.blks ∧ V'.J.hd = P.V.J.hd ∧ V'.J.ring = P.V.J.ring ∧ D'.ok ∧ D'.W.length ≤ 1 ∧ D'.S.length = P.D.S.length) := by
  have hw := widest_eq
  have h1 := I.V.j.hdr
  have h2 := I.V.j.bound
  by_cases hf : P.V.J.held.length = P.V.J.ring
  · refine .inl ⟨hf, ?_⟩
    unfold markV appV appendM
    rw [if_pos hf]
  · refine .inr ⟨hf, ?_⟩
    have hap : appendM P.V.J P.D (0, 2, 0, ⟨#[]⟩, n) = .ok ({ P.V.J with held := P.V.J.held ++ [(P.V.J.hd.gen, setSeq (0, 2, 0, ⟨#[]⟩, n) P.V.J.next)] }, P.D.put (posM P.V.J.ring P.V.J.next) (sectorM (bodyM P.V.J.hd.gen (setSeq (0, 2, 0, ⟨#[]⟩, n) P.V.J.next)))) := by
      unfold appendM
      rw [if_neg hf, if_pos]
      refine ⟨⟨?_, .inl ⟨rfl, hn, rfl, rfl⟩⟩, by omega⟩
      show 1 ≤ P.V.J.next ∧ P.V.J.next ≤ widest
      unfold Jrn.next
      omega
    have hav : appV P.V P.D n (0, 2, 0, ⟨#[]⟩, n) = .ok (⟨{ P.V.J with held := P.V.J.held ++ [(P.V.J.hd.gen, setSeq (0, 2, 0, ⟨#[]⟩, n) P.V.J.next)] }, P.V.laid, takeV P.V.blks (setSeq (0, 2, 0, ⟨#[]⟩, n) P.V.J.next)⟩, P.D.put (posM P.V.J.ring P.V.J.next) (sectorM (bodyM P.V.J.hd.gen (setSeq (0, 2, 0, ⟨#[]⟩, n) P.V.J.next)))) := by
      unfold appV
      rw [hap]
    obtain ⟨I2, e1, e2, e3, e4, e5⟩ := I.V.append hav
    have hr := pos_bd I.V.j.ring.1 P.V.J.next
    have hlen := I.len
    have htk : takeV P.V.blks (setSeq (0, 2, 0, ⟨#[]⟩, n) P.V.J.next) = P.V.blks := takeV_id (fun h => by cases h)
    refine ⟨_, _, hav, ⟨I2.flush (by omega), ?_, ?_, I.fr, I.lat, I.rnd, I.left, I.few, I.wr, I.opn, I.ack, I.st⟩, rfl, htk, rfl, rfl, I2.j.dok, by show (P.D.W ++ [_]).length ≤ 1; rw [I.W]; exact Nat.le_refl _, rfl⟩
    · show P.V.J.ring + 11 ≤ (P.D.put _ _).flush.S.length
      rw [put_flush_len]
      exact hlen
    · show (P.D.put _ _).flush.S.getD (P.V.J.ring + 10) [] = floorS P.floor
      rw [put_flush_get I.W (by omega), if_neg (by omega)]
      exact I.fl
/-- what let1 keeps -/
structure LetK (P P' : Pri) : Prop where
  G : P'.G = P.G
  marked : P'.marked = P.marked
  floor : P'.floor = P.floor
  acked : P'.acked = P.acked
  hd : P'.V.J.hd = P.V.J.hd
  ring : P'.V.J.ring = P.V.J.ring
  epoch : P'.S.epoch = P.S.epoch
  til : P'.S.til = P.S.til
theorem LetK.refl (P : Pri) : LetK P P := ⟨rfl, rfl, rfl, rfl, rfl, rfl, rfl, rfl⟩
theorem LetK.at_ (P : Pri) (now : Int) : LetK P (P.at_ now) := ⟨rfl, rfl, rfl, rfl, rfl, rfl, rfl, rfl⟩
theorem LetK.trans {P Q R : Pri} (a : LetK P Q) (b : LetK Q R) : LetK P R := ⟨b.G.trans a.G, b.marked.trans a.marked, b.floor.trans a.floor, b.acked.trans a.acked, b.hd.trans a.hd, b.ring.trans a.ring, b.epoch.trans a.epoch, b.til.trans a.til⟩
/-- a write that waited passes -/
theorem PInv.let1 {P : Pri} {B : Int} (I : PInv P B) (hB : B + 4 ≤ widest) {c : Call} (hc : RightC c) (now : Int) :
    PInv (let1 P c now).2 (B + 2) ∧ LetK P (let1 P c now).2 ∧
    ((∃ k, k ≠ 0 ∧ (let1 P c now).1 = (c.1, 0, k) ∧ (let1 P c now).2 = P.at_ now) ∨
     ((let1 P c now).1 = (c.1, P.V.J.next, 0) ∧ (let1 P c now).2.V.J.held = P.V.J.held ++ [(P.V.J.hd.gen, (P.V.J.next, 1, c.2.1, c.2.2, 0))] ∧ (let1 P c now).2.V.blks = P.V.blks.set c.2.1.toNat (P.V.J.next, c.2.2))) := by
  unfold Go.Proofs.YtanjfjiaheghcaaGreatDoor.let1
  cases hk : checkS P.S P.S.epoch now with
  | some k =>
    dsimp only
    refine ⟨(I.at_ now).mono (by omega), LetK.at_ P now, .inl ⟨k, ?_, rfl, rfl⟩⟩
    unfold checkS at hk
    split at hk
    · cases hk; decide
    · split at hk
      · cases hk; decide
      · cases hk
  | none =>
    dsimp only
    rcases (I.at_ now).do_ hB hc with ⟨_, h⟩ | ⟨_, P', h, I', e1, e2, e3, e4, e5, e6, e7, e8, e9, _⟩
    · rw [h]
      exact ⟨(I.at_ now).mono (by omega), LetK.at_ P now, .inl ⟨6, by decide, rfl, rfl⟩⟩
    · rw [h]
      exact ⟨I', ⟨e5, e7, e8, e9, e3, e4, by rw [e6]; rfl, by rw [e6]; rfl⟩, .inr ⟨rfl, e1, e2⟩⟩
theorem PInv.letK {P : Pri} {B : Int} {now : Int} {l : List Call} (I : PInv P B) (hB : B + 2 * l.length + 2 ≤ widest) (hl : ∀ c ∈ l, RightC c) (k : Nat) (hk : k ≤ l.length) : PInv (letP P now (l.take k)).2 (B + 2 * k) ∧ LetK P (letP P now (l.take k)).2 := by
  induction k with
  | zero => exact ⟨I.mono (by omega), LetK.refl _⟩
  | succ k ih =>
    obtain ⟨i1, i2⟩ := ih (by omega)
    rw [← List.take_append_getElem (show k < l.length by omega), letP_snoc]
    obtain ⟨a, b, _⟩ := i1.let1 (by omega) (hl _ (List.getElem_mem (show k < l.length by omega))) now
    exact ⟨a.mono (by omega), i2.trans b⟩
theorem PInv.letP {P : Pri} {B : Int} {now : Int} {l : List Call} (I : PInv P B) (hB : B + 2 * l.length + 2 ≤ widest) (hl : ∀ c ∈ l, RightC c) : PInv (letP P now l).2 (B + 2 * l.length) ∧ LetK P (letP P now l).2 := by
  have := I.letK (now := now) hB hl l.length (Nat.le_refl _)
  rwa [List.take_length] at this
theorem PInv.opened {P : Pri} {B : Int} (I : PInv P B) : PInv { P with G := P.G.opened } B := { I with rnd := .inl rfl, left := ⟨Int.le_refl _, (by decide : (0 : Int) ≤ 6)⟩, few := Nat.zero_le _, wr := (fun _ h => nomatch h), opn := fun _ => rfl }
theorem floorS_len (n : Int) : (floorS n).length = 64 := by
  unfold floorS
  split
  · rfl
  · exact sectorM_len (by have := numB_nine n; omega)
theorem PInv.freeze {P : Pri} {B : Int} (I : PInv P B) (round : Int) : PInv (freezeP P round).2 B ∧ (freezeP P round).2.V = P.V ∧ (freezeP P round).2.S = P.S ∧ (freezeP P round).2.marked = P.marked ∧ (freezeP P round).2.acked = P.acked ∧
    (((freezeP P round).1 = none ∧ 1 ≤ round ∧ round ≤ widest ∧ (P.G.round = round ∨ P.floor < round) ∧ (freezeP P round).2.floor = round ∧ (freezeP P round).2.G = { P.G with round := round, latest := round, left := 6 }) ∨ ((∃ e, (freezeP P round).1 = some e ∧ e.2 ≠ 0) ∧ (freezeP P round).2 = P)) := by
  have hw := widest_eq
  have hlat := I.lat
  have hrnd := I.rnd
  have hfr := I.fr
  have hlen := I.len
  unfold freezeP
  split
  · exact ⟨I, rfl, rfl, rfl, rfl, .inr ⟨⟨_, rfl, (by decide : (1 : Int) ≠ 0)⟩, rfl⟩⟩
  rename_i hb
  unfold freezeG
  by_cases h1 : round < 1 ∨ (6 : Int) < 1
  · rw [if_pos h1]
    exact ⟨I, rfl, rfl, rfl, rfl, .inr ⟨⟨_, rfl, (by decide : (1 : Int) ≠ 0)⟩, rfl⟩⟩
  rw [if_neg h1]
  by_cases h2 : round ≠ P.G.round ∧ round ≤ P.G.latest
  · rw [if_pos h2]
    exact ⟨I, rfl, rfl, rfl, rfl, .inr ⟨⟨_, rfl, (by decide : (10 : Int) ≠ 0)⟩, rfl⟩⟩
  rw [if_neg h2]
  dsimp only
  have hlf : (0 : Int) ≤ 6 ∧ (6 : Int) ≤ 6 := by decide
  by_cases h3 : P.floor < round
  · rw [if_pos h3]
    have hS : ∀ p, p < P.V.J.ring + 10 → (P.D.put (P.V.J.ring + 10) (floorS round)).flush.S.getD p [] = P.D.S.getD p [] := fun p hp => by rw [put_flush_get I.W (by omega), if_neg (by omega)]
    have hok : (P.D.put (P.V.J.ring + 10) (floorS round)).flush.ok := Dsk.settle_ok (Dsk.put_ok I.V.j.dok (by omega) (floorS_len round)) _
    have hV : VInv P.V (P.D.put (P.V.J.ring + 10) (floorS round)).flush P.V.J.held.length B := by
      refine ⟨I.V.j.swap I.W hok put_flush_len rfl (fun p hp => hS p (by omega)), by rw [put_flush_len]; exact I.V.len, I.V.l8, fun b h => ?_, I.V.laidN, I.V.blks⟩
      have h8 := I.V.l8
      rw [hS _ (by omega)]
      exact I.V.laidD b h
    refine ⟨⟨hV, by show _ ≤ (P.D.put _ _).flush.S.length; rw [put_flush_len]; exact hlen, ?_, ⟨by show 0 ≤ round; omega, by show round ≤ widest; omega⟩, rfl, .inr rfl, hlf, I.few, I.wr, (fun h => ?_), I.ack, I.st⟩, rfl, rfl, rfl, rfl, .inl ⟨rfl, by omega, by omega, .inr h3, rfl, rfl⟩⟩
    · show (P.D.put _ _).flush.S.getD (P.V.J.ring + 10) [] = floorS round
      rw [put_flush_get I.W (by omega), if_pos rfl]
    · have h : round = 0 := h
      omega
  · rw [if_neg h3]
    have hrr : round = P.floor := by omega
    have hgr : P.G.round = round := by omega
    refine ⟨⟨I.V, hlen, I.fl, I.fr, hrr, .inr hrr, hlf, I.few, I.wr, (fun h => ?_), I.ack, I.st⟩, rfl, rfl, rfl, rfl, .inl ⟨rfl, by omega, by omega, .inl hgr, hrr.symm, rfl⟩⟩
    have h : round = 0 := h
    omega
/-- how many records are up to a number -/
theorem uptoV_seq {J : Jrn} (hs : ∀ i (h : i < J.held.length), (J.held[i]).2.1 = J.hd.first + (i : Nat)) (n : Int) : uptoV J.held n = min J.held.length (n + 1 - J.hd.first).toNat := by
  have key : ∀ k, k ≤ J.held.length → uptoV (J.held.take k) n = min k (n + 1 - J.hd.first).toNat := by
    intro k
    induction k with
    | zero => intro _; exact (Nat.zero_min _).symm
    | succ k ih =>
      intro hk
      rw [← List.take_append_getElem (show k < J.held.length by omega), uptoV_snoc, ih (by omega), hs k (by omega)]
      split <;> omega
  have := key _ (Nat.le_refl _)
  rwa [List.take_length] at this
theorem PInv.ackd {P : Pri} {B : Int} (I : PInv P B) (hB : B + 4 ≤ widest) {upto : Int} (h1 : ¬ (upto < 0 ∨ P.V.J.next ≤ upto)) (h2 : ¬ upto ≤ P.acked) :
    ∃ V' D', ckV P.V P.D upto = .ok (V', D') ∧ PInv { P with V := V', D := D', acked := upto } (B + 2) ∧ V'.blks = P.V.blks ∧ V'.J.ring = P.V.J.ring ∧ V'.J.next = P.V.J.next ∧ V'.J.hd.first = upto + 1 ∧ V'.J.held = P.V.J.held.drop (upto - P.acked).toNat ∧ D'.S.length = P.D.S.length := by
  have hw := widest_eq
  have hack := I.ack
  have hu := uptoV_seq I.V.j.seq upto
  have hnx : P.V.J.next = P.V.J.hd.first + P.V.J.held.length := rfl
  have hu' : uptoV P.V.J.held upto = (upto - P.acked).toNat := by rw [hu]; omega
  obtain ⟨J2, D2, htr, hrg⟩ := trimM_ok (J := P.V.J) (D := layV P.V P.D) (uptoV_le P.V.J.held upto)
  have hck : ckV P.V P.D upto = .ok (⟨J2, P.V.blks, P.V.blks⟩, D2) := by
    unfold ckV
    rw [if_neg h1, htr]
  obtain ⟨I2, e1, e2, e3, _⟩ := I.V.ck (by omega) hck
  obtain ⟨IL, hWL⟩ := I.V.lay (B := B) (by omega)
  obtain ⟨hS, hl⟩ := trimM_S hWL htr
  have hl1 : P.D.flush.S.length = P.D.S.length := Dsk.settle_len _ _
  have hll : (layV P.V P.D).S.length = P.D.S.length := by
    unfold layV
    rw [show ∀ D : Dsk, D.flush.S.length = D.S.length from fun D => Dsk.settle_len _ _, layF_len, hl1]
  have hlen := I.len
  have hJ2 : J2.hd.first = P.V.J.hd.first + (upto - P.acked).toNat ∧ J2.held = P.V.J.held.drop (upto - P.acked).toNat := by
    unfold trimM at htr
    rw [hu'] at htr
    rw [if_neg (by omega), if_neg (by omega)] at htr
    cases htr
    exact ⟨rfl, by rw [Int.toNat_natCast]⟩
  have hf : D2.S.getD (P.V.J.ring + 10) [] = floorS P.floor := by
    rw [hS _ (by omega), ← I.fl]
    have hc := Dsk.flush_cur (layF P.V.J.ring P.V.laid P.V.blks 8 P.D.flush) (i := P.V.J.ring + 10) (by rw [layF_len, hl1]; omega)
    have h3 := layF_hi (ring := P.V.J.ring) (laid := P.V.laid) (blks := P.V.blks) (D := P.D.flush) 8 8
    rw [if_neg (by omega), show 2 + P.V.J.ring + 8 = P.V.J.ring + 10 by omega] at h3
    have h4 : (layV P.V P.D).S.getD (P.V.J.ring + 10) [] = (layF P.V.J.ring P.V.laid P.V.blks 8 P.D.flush).cur (P.V.J.ring + 10) := hc
    rw [h4, h3, flush_nil I.W]
    show curF _ _ P.D.W = _
    rw [I.W]
    rfl
  refine ⟨_, _, hck, ⟨I2, ?_, ?_, I.fr, I.lat, I.rnd, I.left, I.few, I.wr, I.opn, ?_, I.st⟩, e1, e2, e3, ?_, hJ2.2, by rw [hl, hll]⟩
  · show J2.ring + 11 ≤ D2.S.length
    rw [hrg, hl, hll]
    exact hlen
  · show D2.S.getD (J2.ring + 10) [] = floorS P.floor
    rw [hrg]
    exact hf
  · show upto = J2.hd.first - 1
    rw [hJ2.1]
    omega
  · show J2.hd.first = upto + 1
    rw [hJ2.1]
    omega
theorem openM_S {D D' : Dsk} {J : Jrn} {ring : Int} (hW : D.W = []) (h : openM D ring = .ok (J, D')) : (∀ p, 2 ≤ p → D'.S.getD p [] = D.S.getD p []) ∧ D'.S.length = D.S.length := by
  unfold openM at h
  split at h
  · cases h
  split at h
  · cases h
  · cases h
    refine ⟨fun p hp => ?_, save_len _ _⟩
    rw [(save_S D _).1, flush_nil hW, getD_set_ne (by dsimp only; omega)]
theorem openV_S {D D' : Dsk} {V : Vol} {ring : Int} (hW : D.W = []) (h : openV D ring = .ok (V, D')) : (∀ p, 2 ≤ p → D'.S.getD p [] = D.S.getD p []) ∧ D'.S.length = D.S.length := by
  unfold openV at h
  split at h
  · cases h
  split at h
  · cases h
  rename_i J D2 ho
  split at h
  · cases h
  · cases h
    exact openM_S hW ho
theorem flush_any {D : Dsk} (h : D.W = []) (kept : Nat → Bool) : D.settle kept = D := by
  obtain ⟨S, W⟩ := D
  cases h
  rfl
/-- BEHIND A CRASH -/
theorem PInv.crash {P : Pri} {B : Int} (I : PInv P B) (hB : B + 4 ≤ widest) (keep : Int) :
    ∃ V' D', openV (P.D.crash keep) P.V.J.ring = .ok (V', D') ∧ crashP P keep = beginP V' D' P.floor ∧ PInv (beginP V' D' P.floor) (B + 2) ∧ V'.blks = P.V.blks ∧ V'.J.held = P.V.J.held ∧ V'.J.ring = P.V.J.ring ∧ V'.J.hd.first = P.V.J.hd.first ∧ V'.J.next = P.V.J.next ∧ D'.S.length = P.D.S.length ∧ D'.S.getD (P.V.J.ring + 10) [] = floorS P.floor := by
  obtain ⟨q, V', D', q1, q2, ho, I2, e1, e2, e3⟩ := I.V.crash (by omega) (keeps keep)
  have hq : q = P.V.J.held.length := by omega
  subst hq
  rw [List.take_length] at e3
  have hc : P.D.crash keep = P.D := flush_any I.W (keeps keep)
  have ho' : openV (P.D.crash keep) P.V.J.ring = .ok (V', D') := ho
  obtain ⟨hS, hl⟩ := openV_S (by rw [hc]; exact I.W) ho'
  rw [hc] at hS hl
  have hr := I.V.j.ring
  have hlen := I.len
  have hf : D'.S.getD (P.V.J.ring + 10) [] = floorS P.floor := by rw [hS _ (by omega)]; exact I.fl
  have hn : 0 < P.V.J.hd.first := I.V.j.hdr.2.1
  have hfirst : V'.J.hd.first = P.V.J.hd.first := by
    obtain ⟨_, _, _, _, hm, _⟩ := I.V.j.crash (by omega) (keeps keep)
    have ho2 := ho
    unfold openV at ho2
    split at ho2
    · cases ho2
    rw [hm] at ho2
    dsimp only at ho2
    split at ho2
    · cases ho2
    · cases ho2
      rfl
  have hcr : crashP P keep = beginP V' D' P.floor := by
    unfold crashP
    rw [ho']
  have hbl : V'.blks = P.V.blks := by rw [I2.blks, e2, e3, ← I.V.blks]
  refine ⟨V', D', ho', hcr, ⟨?_, ?_, ?_, I.fr, rfl, .inl rfl, ⟨Int.le_refl _, (by decide : (0 : Int) ≤ 6)⟩, Nat.zero_le _, (fun _ h => nomatch h), fun _ => rfl, rfl, st0_ok⟩, hbl, e3, e1, hfirst, ?_, hl, hf⟩
  · show VInv V' D' V'.J.held.length (B + 2)
    rw [e3]
    exact I2
  · show V'.J.ring + 11 ≤ D'.S.length
    rw [e1, hl]; exact hlen
  · show D'.S.getD (V'.J.ring + 10) [] = _
    rw [e1]; exact hf
  · unfold Jrn.next
    rw [hfirst, e3]
end Go.Proofs.YtanjfjiaheghcaaGreatDoor
