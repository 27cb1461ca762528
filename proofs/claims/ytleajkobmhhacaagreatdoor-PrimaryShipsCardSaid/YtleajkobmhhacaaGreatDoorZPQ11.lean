/- Contracts of functions of the given program, and plain laws: parts of the proofs of laws. -/
import Derived.Test.YtleajkobmhhacaaGreatDoorZPQ4
import Derived.Test.YtleajkobmhhacaaGreatDoorZPQ10
import Derived.Test.YtleajkobmhhacaaGreatDoorZPQ9
import Derived.MapKept
import Derived.Below
import Derived.Laws.AppendOwn
import Derived.Maps.RangeRun
/- Contracts of functions of the given program, and plain laws on what they compute: parts of the proofs of laws. -/
namespace Go.Proofs.YtleajkobmhhacaaGreatDoor
open Go Go.GL

/-- what holds of a primary that is up -/
structure PInv (P : Pri) (B : Int) : Prop where
  V : VInv P.V P.D P.V.J.held.length B
  len : P.V.J.ring + 11 ≤ P.D.S.length
  fl : P.D.S.getD (P.V.J.ring + 10) [] = floorS P.floor
  fr : 0 ≤ P.floor ∧ P.floor ≤ widest
  lat : P.G.latest = P.floor
  rnd : P.G.round = 0 ∨ P.G.round = P.floor
  left : 0 ≤ P.G.left ∧ P.G.left ≤ 6
  few : P.G.wait.length ≤ 4
  wr : ∀ c ∈ P.G.wait, RightC c
  opn : P.G.round = 0 → P.G.wait = []
  ack : P.acked = P.V.J.hd.first - 1
  st : (0 ≤ P.S.now ∧ P.S.now ≤ big60) ∧ 0 ≤ P.S.til ∧ P.S.til ≤ big60 + 10
theorem st0_ok : (0 ≤ st0.now ∧ st0.now ≤ big60) ∧ 0 ≤ st0.til ∧ st0.til ≤ big60 + 10 := by decide
theorem widest_eq : widest = 1152921504606846975 := rfl
theorem big60_eq : big60 = 1152921504606846976 := rfl
theorem PInv.W {P : Pri} {B : Int} (I : PInv P B) : P.D.W = [] := by
  have := I.V.j.loose
  rw [List.drop_eq_nil_of_le (Nat.le_refl _)] at this
  exact this
theorem PInv.mono {P : Pri} {B B' : Int} (I : PInv P B) (h : B ≤ B') : PInv P B' := { I with V := I.V.mono h }
theorem St.at_ok {s : St} (h : (0 ≤ s.now ∧ s.now ≤ big60) ∧ 0 ≤ s.til ∧ s.til ≤ big60 + 10) (now : Int) : (0 ≤ (s.at_ now).now ∧ (s.at_ now).now ≤ big60) ∧ 0 ≤ (s.at_ now).til ∧ (s.at_ now).til ≤ big60 + 10 := by
  have := big60_eq
  refine ⟨?_, h.2⟩
  show 0 ≤ max s.now (min now big60) ∧ max s.now (min now big60) ≤ big60
  omega
theorem PInv.at_ {P : Pri} {B : Int} (I : PInv P B) (now : Int) : PInv (P.at_ now) B := { I with st := St.at_ok I.st now }
theorem PInv.rng {P : Pri} {B : Int} (I : PInv P B) (hB : B + 2 ≤ widest) : P.V.rng := I.V.rng hB
/-- a sector behind a write that is flushed -/
theorem put_flush_get {D : Dsk} (hW : D.W = []) {i p : Nat} {x : List UInt8} (hp : p < D.S.length) : (D.put i x).flush.S.getD p [] = if i = p then x else D.S.getD p [] := by
  have h := Dsk.flush_cur (D.put i x) (i := p) hp
  have h2 : (D.put i x).flush.cur p = (D.put i x).flush.S.getD p [] := rfl
  rw [← h2, h]
  show curF p _ (D.W ++ [(i, x)]) = _
  rw [curF_snoc, hW]
  rfl
theorem put_flush_len {D : Dsk} {i : Nat} {x : List UInt8} : (D.put i x).flush.S.length = D.S.length := Dsk.settle_len _ _
theorem sz_right {c : Call} (hc : RightC c) {n : Int} (hn : 1 ≤ n ∧ n ≤ widest) : RightR (setSeq (0, 1, c.2.1, c.2.2, 0) n) := ⟨hn, .inr ⟨rfl, hc.1, hc.2, rfl⟩⟩
/-- a write that is right is done, unless the ring is full -/
theorem PInv.do_ {P : Pri} {B : Int} (I : PInv P B) (hB : B + 4 ≤ widest) {c : Call} (hc : RightC c) :
    (P.V.J.held.length = P.V.J.ring ∧ doP P c = .error ((volTx, c.2.1) :: appEr P.V.J 6, 6)) ∨
    (P.V.J.held.length ≠ P.V.J.ring ∧ ∃ P', doP P c = .ok (P.V.J.next, P') ∧ PInv P' (B + 2) ∧ P'.V.J.held = P.V.J.held ++ [(P.V.J.hd.gen, (P.V.J.next, 1, c.2.1, c.2.2, 0))] ∧ P'.V.blks = P.V.blks.set c.2.1.toNat (P.V.J.next, c.2.2)
      ∧ P'.V.J.hd = P.V.J.hd ∧ P'.V.J.ring = P.V.J.ring ∧ P'.G = P.G ∧ P'.S = P.S ∧ P'.marked = P.marked ∧ P'.floor = P.floor ∧ P'.acked = P.acked ∧ P'.D.S.length = P.D.S.length) := by
  have hw := widest_eq
  have h1 := I.V.j.hdr
  have h2 := I.V.j.bound
  have hb8 := I.V.b8
  obtain ⟨⟨hc1, hc2⟩, hc3⟩ := id hc
  have hwr : ∀ P : Pri, writeV P.V P.D c.2.1 c.2.2 = appV P.V P.D c.2.1 (0, 1, c.2.1, c.2.2, 0) := fun P => by
    unfold writeV
    rw [if_neg (fun h => h ⟨hc1, hc2⟩), if_neg (by omega)]
  by_cases hf : P.V.J.held.length = P.V.J.ring
  · refine .inl ⟨hf, ?_⟩
    unfold doP
    rw [hwr]
    unfold appV appendM
    rw [if_pos hf]
  · refine .inr ⟨hf, ?_⟩
    have hap : appendM P.V.J P.D (0, 1, c.2.1, c.2.2, 0) = .ok ({ P.V.J with held := P.V.J.held ++ [(P.V.J.hd.gen, setSeq (0, 1, c.2.1, c.2.2, 0) P.V.J.next)] }, P.D.put (posM P.V.J.ring P.V.J.next) (sectorM (bodyM P.V.J.hd.gen (setSeq (0, 1, c.2.1, c.2.2, 0) P.V.J.next)))) := by
      unfold appendM
      rw [if_neg hf, if_pos]
      refine ⟨sz_right hc ?_, by omega⟩
      unfold Jrn.next
      omega
    have hav : appV P.V P.D c.2.1 (0, 1, c.2.1, c.2.2, 0) = .ok (⟨{ P.V.J with held := P.V.J.held ++ [(P.V.J.hd.gen, setSeq (0, 1, c.2.1, c.2.2, 0) P.V.J.next)] }, P.V.laid, takeV P.V.blks (setSeq (0, 1, c.2.1, c.2.2, 0) P.V.J.next)⟩, P.D.put (posM P.V.J.ring P.V.J.next) (sectorM (bodyM P.V.J.hd.gen (setSeq (0, 1, c.2.1, c.2.2, 0) P.V.J.next)))) := by
      unfold appV
      rw [hap]
    obtain ⟨I2, e1, e2, e3, e4, e5⟩ := I.V.append hav
    have hr := pos_bd I.V.j.ring.1 P.V.J.next
    have hlen := I.len
    have htk : takeV P.V.blks (setSeq (0, 1, c.2.1, c.2.2, 0) P.V.J.next) = P.V.blks.set c.2.1.toNat (P.V.J.next, c.2.2) := by
      unfold takeV
      have hlt : c.2.1.toNat < P.V.blks.length := by omega
      have hx := I.V.blkN _ (List.getElem_mem hlt)
      rw [if_pos ⟨rfl, by show (P.V.blks.getD c.2.1.toNat plc0).1 < P.V.J.next; rw [getD_lt hlt]; exact hx.1.2⟩]
      rfl
    have hdo : doP P c = .ok (P.V.J.next, { P with V := ⟨{ P.V.J with held := P.V.J.held ++ [(P.V.J.hd.gen, setSeq (0, 1, c.2.1, c.2.2, 0) P.V.J.next)] }, P.V.laid, takeV P.V.blks (setSeq (0, 1, c.2.1, c.2.2, 0) P.V.J.next)⟩, D := (P.D.put (posM P.V.J.ring P.V.J.next) (sectorM (bodyM P.V.J.hd.gen (setSeq (0, 1, c.2.1, c.2.2, 0) P.V.J.next)))).flush }) := by unfold doP; rw [hwr, hav]
    refine ⟨_, hdo, ⟨I2.flush (by omega), ?_, ?_, I.fr, I.lat, I.rnd, I.left, I.few, I.wr, I.opn, I.ack, I.st⟩, rfl, htk, rfl, rfl, rfl, rfl, rfl, rfl, rfl, put_flush_len⟩
    · show P.V.J.ring + 11 ≤ (P.D.put _ _).flush.S.length
      rw [put_flush_len]
      exact hlen
    · show (P.D.put _ _).flush.S.getD (P.V.J.ring + 10) [] = floorS P.floor
      rw [put_flush_get I.W (by omega), if_neg (by omega)]
      exact I.fl
/-- the same, of a marker -/
theorem PInv.mark {P : Pri} {B : Int} (I : PInv P B) (hB : B + 4 ≤ widest) {n : Int} (hn : 1 ≤ n ∧ n ≤ widest) :
    (P.V.J.held.length = P.V.J.ring ∧ markV P.V P.D n = .error ((volTx, n) :: appEr P.V.J 6, 6)) ∨
    (P.V.J.held.length ≠ P.V.J.ring ∧ ∃ V' D', markV P.V P.D n = .ok (V', D') ∧ PInv { P with V := V', D := D'.flush, marked := n } (B + 2) ∧ V'.J.held = P.V.J.held ++ [(P.V.J.hd.gen, (P.V.J.next, 2, 0, ⟨#[]⟩, n))] ∧ V'.blks = P.V.blks ∧ V'.J.hd = P.V.J.hd ∧ V'.J.ring = P.V.J.ring ∧ D'.ok ∧ D'.W.length ≤ 1 ∧ D'.S.length = P.D.S.length) := by
  have hw := widest_eq
  have h1 := I.V.j.hdr
  have h2 := I.V.j.bound
  by_cases hf : P.V.J.held.length = P.V.J.ring
  · refine .inl ⟨hf, ?_⟩
    unfold markV appV appendM
    rw [if_pos hf]
  · refine .inr ⟨hf, ?_⟩
    have hap : appendM P.V.J P.D (0, 2, 0, ⟨#[]⟩, n) = .ok ({ P.V.J with held := P.V.J.held ++ [(P.V.J.hd.gen, setSeq (0, 2, 0, ⟨#[]⟩, n) P.V.J.next)] }, P.D.put (posM P.V.J.ring P.V.J.next) (sectorM (bodyM P.V.J.hd.gen (setSeq (0, 2, 0, ⟨#[]⟩, n) P.V.J.next)))) := by
      unfold appendM
      rw [if_neg hf, if_pos]
      refine ⟨⟨?_, .inl ⟨rfl, hn, rfl, rfl⟩⟩, by omega⟩
      show 1 ≤ P.V.J.next ∧ P.V.J.next ≤ widest
      unfold Jrn.next
      omega
    have hav : appV P.V P.D n (0, 2, 0, ⟨#[]⟩, n) = .ok (⟨{ P.V.J with held := P.V.J.held ++ [(P.V.J.hd.gen, setSeq (0, 2, 0, ⟨#[]⟩, n) P.V.J.next)] }, P.V.laid, takeV P.V.blks (setSeq (0, 2, 0, ⟨#[]⟩, n) P.V.J.next)⟩, P.D.put (posM P.V.J.ring P.V.J.next) (sectorM (bodyM P.V.J.hd.gen (setSeq (0, 2, 0, ⟨#[]⟩, n) P.V.J.next)))) := by
      unfold appV
      rw [hap]
    obtain ⟨I2, e1, e2, e3, e4, e5⟩ := I.V.append hav
    have hr := pos_bd I.V.j.ring.1 P.V.J.next
    have hlen := I.len
    have htk : takeV P.V.blks (setSeq (0, 2, 0, ⟨#[]⟩, n) P.V.J.next) = P.V.blks := takeV_id (fun h => by cases h)
    refine ⟨_, _, hav, ⟨I2.flush (by omega), ?_, ?_, I.fr, I.lat, I.rnd, I.left, I.few, I.wr, I.opn, I.ack, I.st⟩, rfl, htk, rfl, rfl, I2.j.dok, by show (P.D.W ++ [_]).length ≤ 1; rw [I.W]; exact Nat.le_refl _, rfl⟩
    · show P.V.J.ring + 11 ≤ (P.D.put _ _).flush.S.length
      rw [put_flush_len]
      exact hlen
    · show (P.D.put _ _).flush.S.getD (P.V.J.ring + 10) [] = floorS P.floor
      rw [put_flush_get I.W (by omega), if_neg (by omega)]
      exact I.fl
/-- what let1 keeps -/
structure LetK (P P' : Pri) : Prop where
  G : P'.G = P.G
  marked : P'.marked = P.marked
  floor : P'.floor = P.floor
  acked : P'.acked = P.acked
  hd : P'.V.J.hd = P.V.J.hd
  ring : P'.V.J.ring = P.V.J.ring
  epoch : P'.S.epoch = P.S.epoch
  til : P'.S.til = P.S.til
theorem LetK.refl (P : Pri) : LetK P P := ⟨rfl, rfl, rfl, rfl, rfl, rfl, rfl, rfl⟩
theorem LetK.at_ (P : Pri) (now : Int) : LetK P (P.at_ now) := ⟨rfl, rfl, rfl, rfl, rfl, rfl, rfl, rfl⟩
theorem LetK.trans {P Q R : Pri} (a : LetK P Q) (b : LetK Q R) : LetK P R := ⟨b.G.trans a.G, b.marked.trans a.marked, b.floor.trans a.floor, b.acked.trans a.acked, b.hd.trans a.hd, b.ring.trans a.ring, b.epoch.trans a.epoch, b.til.trans a.til⟩
/-- a write that waited passes -/
theorem PInv.let1 {P : Pri} {B : Int} (I : PInv P B) (hB : B + 4 ≤ widest) {c : Call} (hc : RightC c) (now : Int) :
    PInv (let1 P c now).2 (B + 2) ∧ LetK P (let1 P c now).2 ∧
    ((∃ k, k ≠ 0 ∧ (let1 P c now).1 = (c.1, 0, k) ∧ (let1 P c now).2 = P.at_ now) ∨
     ((let1 P c now).1 = (c.1, P.V.J.next, 0) ∧ (let1 P c now).2.V.J.held = P.V.J.held ++ [(P.V.J.hd.gen, (P.V.J.next, 1, c.2.1, c.2.2, 0))] ∧ (let1 P c now).2.V.blks = P.V.blks.set c.2.1.toNat (P.V.J.next, c.2.2))) := by
  unfold Go.Proofs.YtleajkobmhhacaaGreatDoor.let1
  cases hk : checkS P.S P.S.epoch now with
  | some k =>
    dsimp only
    refine ⟨(I.at_ now).mono (by omega), LetK.at_ P now, .inl ⟨k, ?_, rfl, rfl⟩⟩
    unfold checkS at hk
    split at hk
    · cases hk; decide
    · split at hk
      · cases hk; decide
      · cases hk
  | none =>
    dsimp only
    rcases (I.at_ now).do_ hB hc with ⟨_, h⟩ | ⟨_, P', h, I', e1, e2, e3, e4, e5, e6, e7, e8, e9, _⟩
    · rw [h]
      exact ⟨(I.at_ now).mono (by omega), LetK.at_ P now, .inl ⟨6, by decide, rfl, rfl⟩⟩
    · rw [h]
      exact ⟨I', ⟨e5, e7, e8, e9, e3, e4, by rw [e6]; rfl, by rw [e6]; rfl⟩, .inr ⟨rfl, e1, e2⟩⟩
theorem PInv.letK {P : Pri} {B : Int} {now : Int} {l : List Call} (I : PInv P B) (hB : B + 2 * l.length + 2 ≤ widest) (hl : ∀ c ∈ l, RightC c) (k : Nat) (hk : k ≤ l.length) : PInv (letP P now (l.take k)).2 (B + 2 * k) ∧ LetK P (letP P now (l.take k)).2 := by
  induction k with
  | zero => exact ⟨I.mono (by omega), LetK.refl _⟩
  | succ k ih =>
    obtain ⟨i1, i2⟩ := ih (by omega)
    rw [← List.take_append_getElem (show k < l.length by omega), letP_snoc]
    obtain ⟨a, b, _⟩ := i1.let1 (by omega) (hl _ (List.getElem_mem (show k < l.length by omega))) now
    exact ⟨a.mono (by omega), i2.trans b⟩
theorem PInv.letP {P : Pri} {B : Int} {now : Int} {l : List Call} (I : PInv P B) (hB : B + 2 * l.length + 2 ≤ widest) (hl : ∀ c ∈ l, RightC c) : PInv (letP P now l).2 (B + 2 * l.length) ∧ LetK P (letP P now l).2 := by
  have := I.letK (now := now) hB hl l.length (Nat.le_refl _)
  rwa [List.take_length] at this
theorem PInv.opened {P : Pri} {B : Int} (I : PInv P B) : PInv { P with G := P.G.opened } B := { I with rnd := .inl rfl, left := ⟨Int.le_refl _, (by decide : (0 : Int) ≤ 6)⟩, few := Nat.zero_le _, wr := (fun _ h => nomatch h), opn := fun _ => rfl }
theorem floorS_len (n : Int) : (floorS n).length = 64 := by
  unfold floorS
  split
  · rfl
  · exact sectorM_len (by have := numB_nine n; omega)
theorem PInv.freeze {P : Pri} {B : Int} (I : PInv P B) (round : Int) : PInv (freezeP P round).2 B ∧ (freezeP P round).2.V = P.V ∧ (freezeP P round).2.S = P.S ∧ (freezeP P round).2.marked = P.marked ∧ (freezeP P round).2.acked = P.acked ∧
    (((freezeP P round).1 = none ∧ 1 ≤ round ∧ round ≤ widest ∧ (P.G.round = round ∨ P.floor < round) ∧ (freezeP P round).2.floor = round ∧ (freezeP P round).2.G = { P.G with round := round, latest := round, left := 6 }) ∨ ((∃ e, (freezeP P round).1 = some e ∧ e.2 ≠ 0) ∧ (freezeP P round).2 = P)) := by
  have hw := widest_eq
  have hlat := I.lat
  have hrnd := I.rnd
  have hfr := I.fr
  have hlen := I.len
  unfold freezeP
  split
  · exact ⟨I, rfl, rfl, rfl, rfl, .inr ⟨⟨_, rfl, (by decide : (1 : Int) ≠ 0)⟩, rfl⟩⟩
  rename_i hb
  unfold freezeG
  by_cases h1 : round < 1 ∨ (6 : Int) < 1
  · rw [if_pos h1]
    exact ⟨I, rfl, rfl, rfl, rfl, .inr ⟨⟨_, rfl, (by decide : (1 : Int) ≠ 0)⟩, rfl⟩⟩
  rw [if_neg h1]
  by_cases h2 : round ≠ P.G.round ∧ round ≤ P.G.latest
  · rw [if_pos h2]
    exact ⟨I, rfl, rfl, rfl, rfl, .inr ⟨⟨_, rfl, (by decide : (10 : Int) ≠ 0)⟩, rfl⟩⟩
  rw [if_neg h2]
  dsimp only
  have hlf : (0 : Int) ≤ 6 ∧ (6 : Int) ≤ 6 := by decide
  by_cases h3 : P.floor < round
  · rw [if_pos h3]
    have hS : ∀ p, p < P.V.J.ring + 10 → (P.D.put (P.V.J.ring + 10) (floorS round)).flush.S.getD p [] = P.D.S.getD p [] := fun p hp => by rw [put_flush_get I.W (by omega), if_neg (by omega)]
    have hok : (P.D.put (P.V.J.ring + 10) (floorS round)).flush.ok := Dsk.settle_ok (Dsk.put_ok I.V.j.dok (by omega) (floorS_len round)) _
    have hV : VInv P.V (P.D.put (P.V.J.ring + 10) (floorS round)).flush P.V.J.held.length B := by
      refine ⟨I.V.j.swap I.W hok put_flush_len rfl (fun p hp => hS p (by omega)), by rw [put_flush_len]; exact I.V.len, I.V.l8, fun b h => ?_, I.V.laidN, I.V.blks⟩
      have h8 := I.V.l8
      rw [hS _ (by omega)]
      exact I.V.laidD b h
    refine ⟨⟨hV, by show _ ≤ (P.D.put _ _).flush.S.length; rw [put_flush_len]; exact hlen, ?_, ⟨by show 0 ≤ round; omega, by show round ≤ widest; omega⟩, rfl, .inr rfl, hlf, I.few, I.wr, (fun h => ?_), I.ack, I.st⟩, rfl, rfl, rfl, rfl, .inl ⟨rfl, by omega, by omega, .inr h3, rfl, rfl⟩⟩
    · show (P.D.put _ _).flush.S.getD (P.V.J.ring + 10) [] = floorS round
      rw [put_flush_get I.W (by omega), if_pos rfl]
    · have h : round = 0 := h
      omega
  · rw [if_neg h3]
    have hrr : round = P.floor := by omega
    have hgr : P.G.round = round := by omega
    refine ⟨⟨I.V, hlen, I.fl, I.fr, hrr, .inr hrr, hlf, I.few, I.wr, (fun h => ?_), I.ack, I.st⟩, rfl, rfl, rfl, rfl, .inl ⟨rfl, by omega, by omega, .inl hgr, hrr.symm, rfl⟩⟩
    have h : round = 0 := h
    omega
/-- how many records are up to a number -/
theorem uptoV_seq {J : Jrn} (hs : ∀ i (h : i < J.held.length), (J.held[i]).2.1 = J.hd.first + (i : Nat)) (n : Int) : uptoV J.held n = min J.held.length (n + 1 - J.hd.first).toNat := by
  have key : ∀ k, k ≤ J.held.length → uptoV (J.held.take k) n = min k (n + 1 - J.hd.first).toNat := by
    intro k
    induction k with
    | zero => intro _; exact (Nat.zero_min _).symm
    | succ k ih =>
      intro hk
      rw [← List.take_append_getElem (show k < J.held.length by omega), uptoV_snoc, ih (by omega), hs k (by omega)]
      split <;> omega
  have := key _ (Nat.le_refl _)
  rwa [List.take_length] at this
theorem PInv.ackd {P : Pri} {B : Int} (I : PInv P B) (hB : B + 4 ≤ widest) {upto : Int} (h1 : ¬ (upto < 0 ∨ P.V.J.next ≤ upto)) (h2 : ¬ upto ≤ P.acked) :
    ∃ V' D', ckV P.V P.D upto = .ok (V', D') ∧ PInv { P with V := V', D := D', acked := upto } (B + 2) ∧ V'.blks = P.V.blks ∧ V'.J.ring = P.V.J.ring ∧ V'.J.next = P.V.J.next ∧ V'.J.hd.first = upto + 1 ∧ V'.J.held = P.V.J.held.drop (upto - P.acked).toNat ∧ D'.S.length = P.D.S.length := by
  have hw := widest_eq
  have hack := I.ack
  have hu := uptoV_seq I.V.j.seq upto
  have hnx : P.V.J.next = P.V.J.hd.first + P.V.J.held.length := rfl
  have hu' : uptoV P.V.J.held upto = (upto - P.acked).toNat := by rw [hu]; omega
  obtain ⟨J2, D2, htr, hrg⟩ := trimM_ok (J := P.V.J) (D := layV P.V P.D) (uptoV_le P.V.J.held upto)
  have hck : ckV P.V P.D upto = .ok (⟨J2, P.V.blks, P.V.blks⟩, D2) := by
    unfold ckV
    rw [if_neg h1, htr]
  obtain ⟨I2, e1, e2, e3, _⟩ := I.V.ck (by omega) hck
  obtain ⟨IL, hWL⟩ := I.V.lay (B := B) (by omega)
  obtain ⟨hS, hl⟩ := trimM_S hWL htr
  have hl1 : P.D.flush.S.length = P.D.S.length := Dsk.settle_len _ _
  have hll : (layV P.V P.D).S.length = P.D.S.length := by
    unfold layV
    rw [show ∀ D : Dsk, D.flush.S.length = D.S.length from fun D => Dsk.settle_len _ _, layF_len, hl1]
  have hlen := I.len
  have hJ2 : J2.hd.first = P.V.J.hd.first + (upto - P.acked).toNat ∧ J2.held = P.V.J.held.drop (upto - P.acked).toNat := by
    unfold trimM at htr
    rw [hu'] at htr
    rw [if_neg (by omega), if_neg (by omega)] at htr
    cases htr
    exact ⟨rfl, by rw [Int.toNat_natCast]⟩
  have hf : D2.S.getD (P.V.J.ring + 10) [] = floorS P.floor := by
    rw [hS _ (by omega), ← I.fl]
    have hc := Dsk.flush_cur (layF P.V.J.ring P.V.laid P.V.blks 8 P.D.flush) (i := P.V.J.ring + 10) (by rw [layF_len, hl1]; omega)
    have h3 := layF_hi (ring := P.V.J.ring) (laid := P.V.laid) (blks := P.V.blks) (D := P.D.flush) 8 8
    rw [if_neg (by omega), show 2 + P.V.J.ring + 8 = P.V.J.ring + 10 by omega] at h3
    have h4 : (layV P.V P.D).S.getD (P.V.J.ring + 10) [] = (layF P.V.J.ring P.V.laid P.V.blks 8 P.D.flush).cur (P.V.J.ring + 10) := hc
    rw [h4, h3, flush_nil I.W]
    show curF _ _ P.D.W = _
    rw [I.W]
    rfl
  refine ⟨_, _, hck, ⟨I2, ?_, ?_, I.fr, I.lat, I.rnd, I.left, I.few, I.wr, I.opn, ?_, I.st⟩, e1, e2, e3, ?_, hJ2.2, by rw [hl, hll]⟩
  · show J2.ring + 11 ≤ D2.S.length
    rw [hrg, hl, hll]
    exact hlen
  · show D2.S.getD (J2.ring + 10) [] = floorS P.floor
    rw [hrg]
    exact hf
  · show upto = J2.hd.first - 1
    rw [hJ2.1]
    omega
  · show J2.hd.first = upto + 1
    rw [hJ2.1]
    omega
theorem openM_S {D D' : Dsk} {J : Jrn} {ring : Int} (hW : D.W = []) (h : openM D ring = .ok (J, D')) : (∀ p, 2 ≤ p → D'.S.getD p [] = D.S.getD p []) ∧ D'.S.length = D.S.length := by
  unfold openM at h
  split at h
  · cases h
  split at h
  · cases h
  · cases h
    refine ⟨fun p hp => ?_, save_len _ _⟩
    rw [(save_S D _).1, flush_nil hW, getD_set_ne (by dsimp only; omega)]
theorem openV_S {D D' : Dsk} {V : Vol} {ring : Int} (hW : D.W = []) (h : openV D ring = .ok (V, D')) : (∀ p, 2 ≤ p → D'.S.getD p [] = D.S.getD p []) ∧ D'.S.length = D.S.length := by
  unfold openV at h
  split at h
  · cases h
  split at h
  · cases h
  rename_i J D2 ho
  split at h
  · cases h
  · cases h
    exact openM_S hW ho
theorem flush_any {D : Dsk} (h : D.W = []) (kept : Nat → Bool) : D.settle kept = D := by
  obtain ⟨S, W⟩ := D
  cases h
  rfl
/-- BEHIND A CRASH -/
theorem PInv.crash {P : Pri} {B : Int} (I : PInv P B) (hB : B + 4 ≤ widest) (keep : Int) :
    ∃ V' D', openV (P.D.crash keep) P.V.J.ring = .ok (V', D') ∧ crashP P keep = beginP V' D' P.floor ∧ PInv (beginP V' D' P.floor) (B + 2) ∧ V'.blks = P.V.blks ∧ V'.J.held = P.V.J.held ∧ V'.J.ring = P.V.J.ring ∧ V'.J.hd.first = P.V.J.hd.first ∧ V'.J.next = P.V.J.next ∧ D'.S.length = P.D.S.length ∧ D'.S.getD (P.V.J.ring + 10) [] = floorS P.floor := by
  obtain ⟨q, V', D', q1, q2, ho, I2, e1, e2, e3⟩ := I.V.crash (by omega) (keeps keep)
  have hq : q = P.V.J.held.length := by omega
  subst hq
  rw [List.take_length] at e3
  have hc : P.D.crash keep = P.D := flush_any I.W (keeps keep)
  have ho' : openV (P.D.crash keep) P.V.J.ring = .ok (V', D') := ho
  obtain ⟨hS, hl⟩ := openV_S (by rw [hc]; exact I.W) ho'
  rw [hc] at hS hl
  have hr := I.V.j.ring
  have hlen := I.len
  have hf : D'.S.getD (P.V.J.ring + 10) [] = floorS P.floor := by rw [hS _ (by omega)]; exact I.fl
  have hn : 0 < P.V.J.hd.first := I.V.j.hdr.2.1
  have hfirst : V'.J.hd.first = P.V.J.hd.first := by
    obtain ⟨_, _, _, _, hm, _⟩ := I.V.j.crash (by omega) (keeps keep)
    have ho2 := ho
    unfold openV at ho2
    split at ho2
    · cases ho2
    rw [hm] at ho2
    dsimp only at ho2
    split at ho2
    · cases ho2
    · cases ho2
      rfl
  have hcr : crashP P keep = beginP V' D' P.floor := by
    unfold crashP
    rw [ho']
  have hbl : V'.blks = P.V.blks := by rw [I2.blks, e2, e3, ← I.V.blks]
  refine ⟨V', D', ho', hcr, ⟨?_, ?_, ?_, I.fr, rfl, .inl rfl, ⟨Int.le_refl _, (by decide : (0 : Int) ≤ 6)⟩, Nat.zero_le _, (fun _ h => nomatch h), fun _ => rfl, rfl, st0_ok⟩, hbl, e3, e1, hfirst, ?_, hl, hf⟩
  · show VInv V' D' V'.J.held.length (B + 2)
    rw [e3]
    exact I2
  · show V'.J.ring + 11 ≤ D'.S.length
    rw [e1, hl]; exact hlen
  · show D'.S.getD (V'.J.ring + 10) [] = _
    rw [e1]; exact hf
  · unfold Jrn.next
    rw [hfirst, e3]
end Go.Proofs.YtleajkobmhhacaaGreatDoor
/- Contracts of functions of the given program, and plain laws on what they compute: parts of the proofs of laws. -/
namespace Go.Proofs.YtleajkobmhhacaaGreatDoor
open Go Go.GL

/-! a primary's calls: what they keep -/
theorem checkS_code {s : St} {e now k : Int} (h : checkS s e now = some k) : k = 10 ∨ k = 11 := by
  unfold checkS at h
  split at h
  · cases h; exact .inl rfl
  · split at h
    · cases h; exact .inr rfl
    · cases h
theorem checkS_ne {s : St} {e now k : Int} (h : checkS s e now = some k) : k ≠ 0 := by rcases checkS_code h with h | h <;> (rw [h]; decide)
theorem grantS_code {s : St} {e now k : Int} (h : (grantS s e now).1 = some k) : k ≠ 0 := by
  unfold grantS at h
  split at h
  · cases h; decide
  split at h
  · cases h; decide
  · cases h
theorem doP_ne {P : Pri} {B : Int} (I : PInv P B) (hB : B + 4 ≤ widest) {c : Call} (hc : RightC c) {now : Int} {l : List (ByteArray × Int)} {k : Int} (h : doP (P.at_ now) c = .error (l, k)) : k ≠ 0 := by
  rcases (I.at_ now).do_ hB hc with ⟨_, h'⟩ | ⟨_, P', h', _⟩
  · rw [h] at h'
    cases h'
    decide
  · rw [h] at h'
    cases h'
structure DidP (P : Pri) (c : Call) (P' : Pri) : Prop where
  k : LetK P P'
  held : P'.V.J.held = P.V.J.held ++ [(P.V.J.hd.gen, (P.V.J.next, 1, c.2.1, c.2.2, 0))]
  blks : P'.V.blks = P.V.blks.set c.2.1.toNat (P.V.J.next, c.2.2)
theorem PInv.write {P : Pri} {B : Int} (I : PInv P B) (hB : B + 4 ≤ widest) (c : Call) (e now : Int) : PInv (writeP P c e now).2 (B + 2) ∧
    ((∃ er, (writeP P c e now).1 = .error er ∧ er.2 ≠ 0 ∧ (writeP P c e now).2 = P.at_ now) ∨
     ((writeP P c e now).1 = .ok 0 ∧ P.G.round ≠ 0 ∧ RightC c ∧ (writeP P c e now).2 = { P.at_ now with G := { P.G with wait := P.G.wait ++ [c] } } ∧ P.G.wait.length < 4) ∨
     (P.G.round = 0 ∧ RightC c ∧ (writeP P c e now).1 = .ok P.V.J.next ∧ DidP P c (writeP P c e now).2)) := by
  have Ia := I.at_ now
  have Im := Ia.mono (show B ≤ B + 2 by omega)
  unfold writeP
  cases hk : checkS P.S e now with
  | some k => exact ⟨Im, .inl ⟨_, rfl, checkS_ne hk, rfl⟩⟩
  | none =>
    dsimp only
    by_cases h1 : 0 ≤ c.2.1 ∧ c.2.1 < 8
    rotate_left
    · rw [if_pos h1]; exact ⟨Im, .inl ⟨_, rfl, (by decide : (5 : Int) ≠ 0), rfl⟩⟩
    rw [if_neg (fun h => h h1)]
    by_cases h2 : 16 < c.2.2.size
    · rw [if_pos h2]; exact ⟨Im, .inl ⟨_, rfl, (by decide : (1 : Int) ≠ 0), rfl⟩⟩
    rw [if_neg h2]
    have hc : RightC c := ⟨h1, by omega⟩
    unfold enterP
    by_cases h0 : P.G.round = 0
    · have h0' : (P.at_ now).G.round = 0 := h0
      rw [if_pos h0']
      rcases Ia.do_ hB hc with ⟨_, h⟩ | ⟨_, P', h, I', e1, e2, e3, e4, e5, e6, e7, e8, e9, _⟩
      · rw [h]; exact ⟨Im, .inl ⟨_, rfl, by show (6 : Int) ≠ 0; decide, rfl⟩⟩
      · rw [h]
        exact ⟨I', .inr (.inr ⟨h0, hc, rfl, ⟨e5, e7, e8, e9, e3, e4, by rw [e6]; rfl, by rw [e6]; rfl⟩, e1, e2⟩)⟩
    · have h0' : ¬ (P.at_ now).G.round = 0 := h0
      rw [if_neg h0']
      by_cases h4 : 4 ≤ P.G.wait.length
      · have h4' : 4 ≤ (P.at_ now).G.wait.length := h4
        rw [if_pos h4']; exact ⟨Im, .inl ⟨_, rfl, by show (7 : Int) ≠ 0; decide, rfl⟩⟩
      · have h4' : ¬ 4 ≤ (P.at_ now).G.wait.length := h4
        rw [if_neg h4']
        refine ⟨{ Im with few := ?_, wr := ?_, opn := fun h => absurd h h0 }, .inr (.inl ⟨rfl, h0, hc, rfl, by omega⟩)⟩
        · show (P.G.wait ++ [c]).length ≤ 4
          rw [List.length_append, List.length_singleton]; omega
        · intro x hx
          rcases List.mem_append.1 hx with hx | hx
          · exact I.wr x hx
          · rw [List.mem_singleton.1 hx]; exact hc
theorem grantS_ok {s : St} (h : (0 ≤ s.now ∧ s.now ≤ big60) ∧ 0 ≤ s.til ∧ s.til ≤ big60 + 10) (e now : Int) : (0 ≤ (grantS s e now).2.now ∧ (grantS s e now).2.now ≤ big60) ∧ 0 ≤ (grantS s e now).2.til ∧ (grantS s e now).2.til ≤ big60 + 10 := by
  have ha := St.at_ok h now
  unfold grantS
  split
  · exact ha
  split
  · exact ha
  · refine ⟨ha.1, ?_⟩
    show 0 ≤ (s.at_ now).now + 10 ∧ (s.at_ now).now + 10 ≤ big60 + 10
    omega
theorem PInv.grant {P : Pri} {B : Int} (I : PInv P B) (e now : Int) : PInv (grantP P e now).2 B ∧ (grantP P e now).2 = { P with S := (grantS P.S e now).2 } ∧ (∀ er, (grantP P e now).1 = some er → er.2 ≠ 0) := by
  unfold grantP
  refine ⟨{ I with st := grantS_ok I.st e now }, rfl, fun er h => ?_⟩
  cases hq : (grantS P.S e now).1 with
  | none => rw [hq] at h; cases h
  | some c => rw [hq] at h; cases h; exact grantS_code hq
theorem PInv.thaw {P : Pri} {B : Int} (I : PInv P B) (hB : B + 12 ≤ widest) (round now : Int) : PInv (thawP P round now).2.2 (B + 8) ∧
    (((∃ er, (thawP P round now).2.1 = some er ∧ er.2 ≠ 0) ∧ (thawP P round now).1 = [] ∧ (thawP P round now).2.2 = P) ∨
     (P.G.round ≠ 0 ∧ (thawP P round now).2.1 = none ∧ (thawP P round now).1 = (Go.Proofs.YtleajkobmhhacaaGreatDoor.letP { P with G := P.G.opened } now P.G.wait).1 ∧ (thawP P round now).2.2 = (Go.Proofs.YtleajkobmhhacaaGreatDoor.letP { P with G := P.G.opened } now P.G.wait).2)) := by
  unfold thawP thawG
  have hf := I.few
  by_cases h : P.G.round = 0 ∨ P.G.round ≠ round
  · rw [if_pos h]
    exact ⟨I.mono (by omega), .inl ⟨⟨_, rfl, (by decide : (9 : Int) ≠ 0)⟩, rfl, rfl⟩⟩
  · rw [if_neg h]
    refine ⟨((I.opened.letP (now := now) (l := P.G.wait) (by omega) I.wr).1).mono (by omega), .inr ⟨fun e => h (.inl e), rfl, rfl, rfl⟩⟩
theorem PInv.tick {P : Pri} {B : Int} (I : PInv P B) (hB : B + 12 ≤ widest) (now : Int) : PInv (tickP P now).2 (B + 8) ∧
    (((tickP P now).1 = [] ∧ ∃ left, (tickP P now).2 = { P with G := { P.G with left := left } }) ∨
     (P.G.round ≠ 0 ∧ (tickP P now).1 = (Go.Proofs.YtleajkobmhhacaaGreatDoor.letP { P with G := P.G.opened } now P.G.wait).1 ∧ (tickP P now).2 = (Go.Proofs.YtleajkobmhhacaaGreatDoor.letP { P with G := P.G.opened } now P.G.wait).2)) := by
  unfold tickP tickG
  have hf := I.few
  have hl := I.left
  by_cases h0 : P.G.round = 0
  · rw [if_pos h0]
    exact ⟨I.mono (by omega), .inl ⟨rfl, P.G.left, rfl⟩⟩
  rw [if_neg h0]
  by_cases h1 : 0 < P.G.left - 1
  · rw [if_pos h1]
    exact ⟨{ I.mono (show B ≤ B + 8 by omega) with left := by show 0 ≤ P.G.left - 1 ∧ P.G.left - 1 ≤ 6; omega }, .inl ⟨rfl, _, rfl⟩⟩
  · rw [if_neg h1]
    refine ⟨((I.opened.letP (now := now) (l := P.G.wait) (by omega) I.wr).1).mono (by omega), .inr ⟨h0, rfl, rfl⟩⟩
theorem PInv.markd {P : Pri} {B : Int} (I : PInv P B) (hB : B + 4 ≤ widest) (round : Int) : PInv (markP P round).2 (B + 2) ∧
    (((∃ er, (markP P round).1 = some er ∧ er.2 ≠ 0) ∧ (markP P round).2 = P) ∨
     (1 ≤ round ∧ P.G.round = round ∧ (markP P round).1 = none ∧ (((markP P round).2 = P ∧ P.marked = round) ∨
      (P.marked ≠ round ∧ (markP P round).2.marked = round ∧ (markP P round).2.V.J.held = P.V.J.held ++ [(P.V.J.hd.gen, (P.V.J.next, 2, 0, ⟨#[]⟩, round))] ∧ (markP P round).2.V.blks = P.V.blks ∧ (markP P round).2.V.J.hd = P.V.J.hd ∧ (markP P round).2.V.J.ring = P.V.J.ring ∧ (markP P round).2.G = P.G ∧ (markP P round).2.S = P.S ∧ (markP P round).2.floor = P.floor ∧ (markP P round).2.acked = P.acked)))) := by
  have hfr := I.fr
  have hrn := I.rnd
  unfold markP
  by_cases h1 : round < 1 ∨ P.G.round ≠ round
  · rw [if_pos h1]
    exact ⟨I.mono (by omega), .inl ⟨⟨_, rfl, (by decide : (9 : Int) ≠ 0)⟩, rfl⟩⟩
  rw [if_neg h1]
  have hr1 : 1 ≤ round := by omega
  have hr2 : P.G.round = round := by omega
  by_cases h2 : P.marked = round
  · rw [if_pos h2]
    exact ⟨I.mono (by omega), .inr ⟨hr1, hr2, rfl, .inl ⟨rfl, h2⟩⟩⟩
  rw [if_neg h2]
  rcases I.mark hB (n := round) (by omega) with ⟨_, h⟩ | ⟨_, V', D', h, I', e1, e2, e3, e4, _⟩
  · rw [h]
    exact ⟨I.mono (by omega), .inl ⟨⟨_, rfl, by show (6 : Int) ≠ 0; decide⟩, rfl⟩⟩
  · rw [h]
    exact ⟨I', .inr ⟨hr1, hr2, rfl, .inr ⟨h2, rfl, e1, e2, e3, e4, rfl, rfl, rfl, rfl⟩⟩⟩
theorem PInv.acks {P : Pri} {B : Int} (I : PInv P B) (hB : B + 4 ≤ widest) (upto : Int) : PInv (ackP P upto).2 (B + 2) ∧
    ((((∃ er, (ackP P upto).1 = some er ∧ er.2 ≠ 0) ∨ (ackP P upto).1 = none) ∧ (ackP P upto).2 = P) ∨
     (P.acked < upto ∧ upto < P.V.J.next ∧ (ackP P upto).1 = none ∧ (ackP P upto).2.acked = upto ∧ (ackP P upto).2.V.blks = P.V.blks ∧ (ackP P upto).2.V.J.next = P.V.J.next ∧ (ackP P upto).2.V.J.ring = P.V.J.ring ∧ (ackP P upto).2.V.J.hd.first = upto + 1
      ∧ (ackP P upto).2.V.J.held = P.V.J.held.drop (upto - P.acked).toNat ∧ (ackP P upto).2.G = P.G ∧ (ackP P upto).2.S = P.S ∧ (ackP P upto).2.floor = P.floor ∧ (ackP P upto).2.marked = P.marked)) := by
  unfold ackP
  by_cases h1 : upto < 0 ∨ P.V.J.next ≤ upto
  · rw [if_pos h1]
    exact ⟨I.mono (by omega), .inl ⟨.inl ⟨_, rfl, (by decide : (5 : Int) ≠ 0)⟩, rfl⟩⟩
  rw [if_neg h1]
  by_cases h2 : upto ≤ P.acked
  · rw [if_pos h2]
    exact ⟨I.mono (by omega), .inl ⟨.inr rfl, rfl⟩⟩
  rw [if_neg h2]
  obtain ⟨V', D', h, I', e1, e2, e3, e4, e5, _⟩ := I.ackd hB h1 h2
  rw [h]
  exact ⟨I', .inr ⟨by omega, by omega, rfl, rfl, e1, e3, e2, e4, e5, rfl, rfl, rfl, rfl⟩⟩
/-- a primary on an empty disk -/
theorem PInv.fresh {ring : Nat} (h1 : 1 ≤ ring) (h2 : ring ≤ 512) : ∃ V D, openV (Dsk.new (ring + 11 : Nat)) ring = .ok (V, D) ∧ PInv (beginP V D 0) 3 ∧ V.J.ring = ring ∧ V.J.held = [] ∧ V.J.next = 1 ∧ V.blks = List.replicate 8 plc0 ∧ D.S.length = ring + 11 ∧ D.W = [] ∧ D.S.getD (ring + 10) [] = zero64 := by
  obtain ⟨ho, I⟩ := VInv.fresh (n := ring + 11) (ring := ring) h1 h2 (by omega) (by omega)
  obtain ⟨hS, hl⟩ := openV_S rfl ho
  have hn : (Dsk.new ((ring + 11 : Nat) : Int)).S = List.replicate (ring + 11) zero64 := by
    unfold Dsk.new
    rw [show (max 0 (min ((ring + 11 : Nat) : Int) 1024)).toNat = ring + 11 by omega]
  have hln : (Dsk.new ((ring + 11 : Nat) : Int)).S.length = ring + 11 := by rw [hn, List.length_replicate]
  have hz : (saveM (Dsk.new ((ring + 11 : Nat) : Int)) ⟨1, 1, 1, 0⟩).S.getD (ring + 10) [] = zero64 := by
    rw [hS _ (by omega), hn, List.getD_eq_getElem?_getD, List.getElem?_replicate, if_pos (by omega)]
    rfl
  refine ⟨_, _, ho, ⟨I, ?_, hz, ⟨Int.le_refl _, (by decide : (0 : Int) ≤ widest)⟩, rfl, .inl rfl, ⟨Int.le_refl _, (by decide : (0 : Int) ≤ 6)⟩, Nat.zero_le _, (fun _ h => nomatch h), fun _ => rfl, rfl, st0_ok⟩, rfl, rfl, rfl, rfl, by rw [hl, hln], rfl, hz⟩
  show ring + 11 ≤ (saveM (Dsk.new ((ring + 11 : Nat) : Int)) ⟨1, 1, 1, 0⟩).S.length
  rw [hl, hln]
  exact Nat.le_refl _
end Go.Proofs.YtleajkobmhhacaaGreatDoor
/- Contracts of functions of the given program, and plain laws on what they compute: parts of the proofs of laws. -/

namespace Go.Proofs.YtleajkobmhhacaaGreatDoor
open Go Go.GL

/-! a primary's floor -/
def FlOk (b : List UInt8) (x : Int) (e : Int) : Prop := e = 0 ∧ 0 < x ∧ sectorM (numB (clampN x)) = b
instance (b : List UInt8) (x e : Int) : Decidable (FlOk b x e) := by unfold FlOk; infer_instance
def floorM (b : List UInt8) : Option Int :=
  if b = zero64 then some 0
  else if OpenOk b ∧ FlOk b (numR (b.take (b.length - 4), 0)).1 (numR (b.take (b.length - 4), 0)).2.2 then some (numR (b.take (b.length - 4), 0)).1 else none
theorem flB_len (n : Int) : (numB (clampN n)).length ≤ 60 := by have := numB_nine n; omega
theorem floor_pad {n : Int} (h : 0 ≤ n ∧ n ≤ widest) : numR (padM (numB (clampN n)), 0) = (n, (List.replicate (60 - (numB (clampN n)).length) 0, 0)) := by
  have e : padM (numB (clampN n)) = numB (clampN n) ++ List.replicate (60 - (numB (clampN n)).length) 0 := rfl
  rw [e, numR_numB h]
theorem floorM_floorS {n : Int} (h : 0 ≤ n ∧ n ≤ widest) : floorM (floorS n) = some n := by
  unfold floorS
  by_cases h0 : n = 0
  · rw [if_pos h0]
    unfold floorM
    rw [if_pos rfl, h0]
  rw [if_neg h0]
  obtain ⟨o1, o2⟩ := openOk_sector (flB_len n)
  have hp := floor_pad h
  have hne : sectorM (numB (clampN n)) ≠ zero64 := by
    intro e
    rw [e] at o2
    rw [← o2] at hp
    have h4 : (numR (zero64.take (zero64.length - 4), 0)).1 = 0 := by decide
    rw [hp] at h4
    exact h0 h4
  unfold floorM
  rw [if_neg hne, o2, hp]
  dsimp only
  rw [if_pos ⟨o1, rfl, by omega, rfl⟩]
set_option maxRecDepth 10000 in
theorem fsector_rt (n : Int) : RT G 117 [.int .i64 n] (fun _ => True) (BytesNew (sectorM (numB (clampN n)))) := by
  refine RT.enter Tryz.func117 rfl (by decide) rfl Tryz.ntmps117 rfl (fun A hu hA => ?_)
  have h1 := numB_nine n
  repeat (first | refine GO ?_ | refine NW fun _ => ?_)
  refine WL.step rfl (OP.call (pre := [ownS none 0 0 5 1 (([] : List UInt8).map byteV)]) rfl rfl (number_ok none 0 0 [] n (by omega)) (Imp.nilS 5 1) rfl rfl ?_)
  rintro _ _ ⟨a1, cap1, rfl, rfl⟩
  repeat (first | refine GO ?_ | refine NW fun _ => ?_)
  rw [List.nil_append, Nat.zero_add]
  refine WL.step rfl (OP.callRT rfl rfl (sector_ok a1 _ cap1 (numB (clampN n)) rfl (flB_len n)) (Ent.own (T := 5) MM) rfl rfl ?_)
  rintro _ _ ⟨v1, rfl, a6, cap6, rfl, rfl⟩
  repeat (first | refine GO ?_ | refine NW fun _ => ?_)
  exact ret1 rfl ⟨[_], ⟨a6, cap6, rfl, rfl⟩, II⟩
def FloorPost (l : List UInt8) (v : Value) : Prop := match floorM l with
  | some x => v = .tuple #[.int .i64 x, .bool true]
  | none => ∃ x, v = .tuple #[.int .i64 x, .bool false]
set_option maxHeartbeats 4000000 in
set_option maxRecDepth 10000 in
theorem floorOf_rt (a : Option Addr) (n c : Nat) (l : List UInt8) (hn : n = l.length) (hc : n ≤ c) (hs : n = 64) : RT G 169 [.slice a n c] (readS a n 1 (l.map byteV)) (fun v E => FloorPost l v ∧ E = []) := by
  refine RT.enter Tryz.func169 rfl (by decide) rfl Tryz.ntmps169 rfl (fun A hu hA => ?_)
  have hE : ∀ {L}, A ∈ L → Ent L (readS a n 1 (l.map byteV)) := fun m => Ent.mem m hu hA
  repeat (first | refine GD ?_ | refine NW fun _ => ?_)
  refine WL.step rfl (OP.makeS (z := [.int .u8 0]) rfl rfl rfl rfl rfl rfl rfl rfl (by decide) (by decide) (by decide) rfl rfl (fun bz => ?_))
  have hz : repL [Value.int .u8 0] (Int.toNat 64) = zero64.map byteV := by rw [repL_bytes]; rfl
  rw [hz]
  refine WL.step rfl (OP.callRO rfl rfl (beq_ro a (some ⟨bz, 0, none⟩) n c _ _ l zero64) (Ent.and (hE MM) (Ent.own (T := 5) MM)) rfl rfl ?_)
  by_cases h0 : l = zero64
  · rw [decide_eq_true h0]
    have hdec : floorM l = some 0 := by unfold floorM; rw [if_pos h0]
    repeat (first | refine GD ?_ | refine NW fun _ => ?_)
    refine ret2 rfl rfl ⟨[], ⟨?_, rfl⟩, II⟩
    unfold FloorPost
    rw [hdec]
  rw [decide_eq_false h0]
  have hdef : floorM l = if OpenOk l ∧ FlOk l (numR (l.take (l.length - 4), 0)).1 (numR (l.take (l.length - 4), 0)).2.2 then some (numR (l.take (l.length - 4), 0)).1 else none := by unfold floorM; rw [if_neg h0]
  repeat (first | refine GD ?_ | refine NW fun _ => ?_)
  refine WL.step rfl (OP.callRT rfl rfl (open_ok a n c l hn hc (by omega)) (hE MM) rfl rfl ?_)
  rintro v E hO
  unfold OpenPost at hO
  have hl4 : (l.take (l.length - 4)).length < 1000000 := by rw [List.length_take]; omega
  by_cases ho : OpenOk l
  rotate_left
  · rw [if_neg ho] at hO
    obtain ⟨rfl, rfl⟩ := hO
    have hdec : floorM l = none := by rw [hdef, if_neg (fun h => ho h.1)]
    refine WL.imp (Imp.nilS 5 1) ?_
    have hby : Bytes (ownS none 0 0 5 1 (([] : List UInt8).map byteV)) [] (.slice none 0 0) := ⟨none, 0, 0, rfl, rfl, Nat.le_refl _, fun h x => read_of_own x⟩
    have huO : Up (ownS none 0 0 5 1 (([] : List UInt8).map byteV)) := up_ownS _ _ _ _ _ _
    generalize hOO : ownS none 0 0 5 1 (([] : List UInt8).map byteV) = O at *
    rw [show ownS none 0 0 5 1 [] = O from hOO]
    repeat (first | refine GD ?_ | refine NW fun _ => ?_)
    refine WL.step rfl (OP.callRT rfl rfl (read0_ok none 0 0) (fun _ _ => trivial) rfl rfl ?_)
    rintro v E ⟨r, rfl, rfl⟩
    repeat (first | refine GD ?_ | refine NW fun _ => ?_)
    refine WL.step rfl (OP.call (pre := [blk r [.slice none 0 0, .int .i64 0] 356, O]) rfl rfl (numR_ok r _ ([], 0) O huO hby (by decide)) PS rfl rfl ?_)
    rintro _ _ ⟨rfl, vy, hy, rfl⟩
    generalize numR ([], 0) = y at *
    obtain ⟨x, ly, ey⟩ := y
    dsimp only
    repeat (first | refine GD ?_ | refine NW fun _ => ?_)
    refine ret2 rfl rfl ⟨[], ⟨?_, rfl⟩, II⟩
    unfold FloorPost
    rw [hdec]
    exact ⟨x, rfl⟩
  rw [if_pos ho] at hO
  obtain ⟨v1, rfl, a2, cap2, rfl, rfl⟩ := hO
  have hdR : floorM l = if FlOk l (numR (l.take (l.length - 4), 0)).1 (numR (l.take (l.length - 4), 0)).2.2 then some (numR (l.take (l.length - 4), 0)).1 else none := by
    rw [hdef]
    by_cases hk : FlOk l (numR (l.take (l.length - 4), 0)).1 (numR (l.take (l.length - 4), 0)).2.2
    · rw [if_pos ⟨ho, hk⟩, if_pos hk]
    · rw [if_neg (fun h => hk h.2), if_neg hk]
  clear hdef
  generalize l.take (l.length - 4) = l4 at *
  refine WL.fact (Ent.ownLe (a := a2) (n := l4.length) (cap := cap2) (T := 5) (size := 1) (cs := l4.map byteV) MM) (fun hc2 => ?_)
  have hby : Bytes (ownS a2 l4.length cap2 5 1 (l4.map byteV)) l4 (.slice a2 l4.length cap2) := ⟨a2, l4.length, cap2, rfl, rfl, hc2, fun h x => read_of_own x⟩
  generalize hO : ownS a2 l4.length cap2 5 1 (l4.map byteV) = O at *
  have huO : Up O := by rw [← hO]; exact up_ownS _ _ _ _ _ _
  repeat (first | refine GD ?_ | refine NW fun _ => ?_)
  refine WL.step rfl (OP.callRT rfl rfl (read0_ok a2 l4.length cap2) (fun _ _ => trivial) rfl rfl ?_)
  rintro v E ⟨r, rfl, rfl⟩
  repeat (first | refine GD ?_ | refine NW fun _ => ?_)
  refine WL.step rfl (OP.call (pre := [blk r [.slice a2 l4.length cap2, .int .i64 0] 356, O]) rfl rfl (numR_ok r _ (l4, 0) O huO hby hl4) PS rfl rfl ?_)
  rintro _ _ ⟨rfl, vy, hy, rfl⟩
  generalize numR (l4, 0) = y at *
  obtain ⟨x, ly, ey⟩ := y
  dsimp only at hdR hy ⊢
  repeat (first | refine GD ?_ | refine NW fun _ => ?_)
  refine WL.guardT rfl rfl rfl rfl (OP.callRO rfl rfl (err_ro r vy ey) (Ent.whole (T := 356) MM) rfl rfl ?_)
  by_cases he : ey = 0
  rotate_left
  · have hdec : floorM l = none := by rw [hdR, if_neg (fun h => he h.1)]
    repeat (first | refine GD ?_ | refine NW fun _ => ?_)
    refine ret2 rfl rfl ⟨[], ⟨?_, rfl⟩, II⟩
    unfold FloorPost
    rw [hdec]
    exact ⟨x, rfl⟩
  by_cases h1 : 0 < x
  rotate_left
  · have hdec : floorM l = none := by rw [hdR, if_neg (fun h => h1 h.2.1)]
    repeat (first | refine GD ?_ | refine NW fun _ => ?_)
    refine ret2 rfl rfl ⟨[], ⟨?_, rfl⟩, II⟩
    unfold FloorPost
    rw [hdec]
    exact ⟨x, rfl⟩
  have hsec := fsector_rt x
  repeat (first | refine GD ?_ | refine NW fun _ => ?_)
  refine WL.guardT rfl rfl rfl rfl (OP.callRT rfl rfl hsec (fun _ _ => trivial) rfl rfl ?_)
  rintro _ _ ⟨a6, cap6, rfl, rfl⟩
  repeat (first | refine GD ?_ | refine NW fun _ => ?_)
  refine WL.guardT rfl rfl rfl rfl (OP.callRO rfl rfl (beq_ro a6 a _ cap6 n c (sectorM (numB (clampN x))) l) (Ent.and (Ent.own (T := 5) MM) (hE MM)) rfl rfl ?_)
  by_cases h4 : sectorM (numB (clampN x)) = l
  · have hdec : floorM l = some x := by rw [hdR, if_pos ⟨he, h1, h4⟩]
    rw [decide_eq_true h4]
    repeat (first | refine GD ?_ | refine NW fun _ => ?_)
    refine ret2 rfl rfl ⟨[], ⟨?_, rfl⟩, II⟩
    unfold FloorPost
    rw [hdec]
    rfl
  · have hdec : floorM l = none := by rw [hdR, if_neg (fun h => h4 h.2.2)]
    rw [decide_eq_false h4]
    repeat (first | refine GD ?_ | refine NW fun _ => ?_)
    refine ret2 rfl rfl ⟨[], ⟨?_, rfl⟩, II⟩
    unfold FloorPost
    rw [hdec]
    exact ⟨x, rfl⟩
end Go.Proofs.YtleajkobmhhacaaGreatDoor
/- A short word: the steps that store nothing. -/
namespace Go.GL
open Go
theorem GS {P Q : Prop} (h : Q) (s : Hd Q → P := by
  intro hh
  (first
    | refine WC.seq ?_ | refine WC.region ?_ | refine WL.nil ?_ | with_reducible refine seqK.go ?_ | refine WC.block ?_ | refine WC.skip ?_ | refine WC.exit ?_ | refine WC.ret ?_
    | with_reducible refine seqK.exit ?_ | with_reducible refine seqK.ret ?_ | (with_reducible refine blockK.hit ?hb ?_; (case hb => rfl)) | (with_reducible refine blockK.miss ?hb ?_; (case hb => rfl)) | with_reducible refine blockK.normal ?_ | with_reducible refine blockK.ret ?_ | with_reducible refine loopK.exit ?_ | with_reducible refine loopK.ret ?_
    | refine WC.condT rfl ?_ | refine WC.condF rfl ?_
    | (refine WL.step rfl ?_; first | refine OP.decT (nw := true) rfl trivial (by first | omega | assumption) rfl rfl ?_ | refine OP.decF (nw := true) rfl trivial (by first | omega | assumption) rfl rfl ?_ | refine OP.decNT (nw := true) rfl trivial (by first | omega | assumption) rfl rfl ?_ | refine OP.decNF (nw := true) rfl trivial (by first | omega | assumption) rfl rfl ?_ | refine OP.pure (nw := true) rfl (by first | exact trivial | (simp only [Holds]; omega) | (simp [Holds]; done) | (simp [Holds]; omega)) rfl rfl ?_ | refine OP.pure (nw := false) rfl (by first | exact trivial | (simp only [Holds]; omega) | (simp [Holds]; done) | (simp [Holds]; omega)) rfl rfl ?_ | refine OP.pickT rfl rfl rfl rfl rfl ?_ | refine OP.pickF rfl rfl rfl rfl rfl ?_ | refine OP.loadN rfl rfl rfl rfl (by repeat (first | exact HasNth.here rfl | apply HasNth.there)) rfl rfl ?_ | refine OP.loadB rfl rfl rfl rfl rfl (by repeat (first | exact HasCut.here rfl | apply HasCut.there)) rfl rfl ?_ | refine OP.buildT rfl rfl rfl rfl ?_ | refine OP.capS rfl rfl rfl rfl rfl rfl ?_)
    | (refine WL.guardT rfl rfl rfl rfl ?_; first | refine OP.decT (nw := true) rfl trivial (by first | omega | assumption) rfl rfl ?_ | refine OP.decF (nw := true) rfl trivial (by first | omega | assumption) rfl rfl ?_ | refine OP.decNT (nw := true) rfl trivial (by first | omega | assumption) rfl rfl ?_ | refine OP.decNF (nw := true) rfl trivial (by first | omega | assumption) rfl rfl ?_ | refine OP.pickT rfl rfl rfl rfl rfl ?_ | refine OP.pickF rfl rfl rfl rfl rfl ?_ | refine OP.pure (nw := true) rfl (by first | exact trivial | (simp only [Holds]; omega) | (simp [Holds]; done) | (simp [Holds]; omega)) rfl rfl ?_ | refine OP.pure (nw := false) rfl trivial rfl rfl ?_ | refine OP.loadN rfl rfl rfl rfl (by repeat (first | exact HasNth.here rfl | apply HasNth.there)) rfl rfl ?_ | refine OP.loadB rfl rfl rfl rfl rfl (by repeat (first | exact HasCut.here rfl | apply HasCut.there)) rfl rfl ?_ | refine OP.buildT rfl rfl rfl rfl ?_)
    | refine WL.guardF rfl rfl rfl rfl rfl rfl ?_ | refine WL.guardU rfl rfl rfl rfl rfl rfl ?_ | refine WL.guarded (nw := true) rfl rfl rfl rfl rfl rfl rfl (by first | exact trivial | (simp only [Holds]; omega) | (simp [Holds]; done) | (simp [Holds]; omega)) ?_)
  repeat (first
    | refine WC.seq ?_ | refine WC.region ?_ | refine WL.nil ?_ | with_reducible refine seqK.go ?_ | refine WC.block ?_ | refine WC.skip ?_ | refine WC.exit ?_ | refine WC.ret ?_
    | with_reducible refine seqK.exit ?_ | with_reducible refine seqK.ret ?_ | (with_reducible refine blockK.hit ?hb ?_; (case hb => rfl)) | (with_reducible refine blockK.miss ?hb ?_; (case hb => rfl)) | with_reducible refine blockK.normal ?_ | with_reducible refine blockK.ret ?_ | with_reducible refine loopK.exit ?_ | with_reducible refine loopK.ret ?_
    | refine WC.condT rfl ?_ | refine WC.condF rfl ?_
    | (refine WL.step rfl ?_; first | refine OP.decT (nw := true) rfl trivial (by first | omega | assumption) rfl rfl ?_ | refine OP.decF (nw := true) rfl trivial (by first | omega | assumption) rfl rfl ?_ | refine OP.decNT (nw := true) rfl trivial (by first | omega | assumption) rfl rfl ?_ | refine OP.decNF (nw := true) rfl trivial (by first | omega | assumption) rfl rfl ?_ | refine OP.pure (nw := true) rfl (by first | exact trivial | (simp only [Holds]; omega) | (simp [Holds]; done) | (simp [Holds]; omega)) rfl rfl ?_ | refine OP.pure (nw := false) rfl (by first | exact trivial | (simp only [Holds]; omega) | (simp [Holds]; done) | (simp [Holds]; omega)) rfl rfl ?_ | refine OP.pickT rfl rfl rfl rfl rfl ?_ | refine OP.pickF rfl rfl rfl rfl rfl ?_ | refine OP.loadN rfl rfl rfl rfl (by repeat (first | exact HasNth.here rfl | apply HasNth.there)) rfl rfl ?_ | refine OP.loadB rfl rfl rfl rfl rfl (by repeat (first | exact HasCut.here rfl | apply HasCut.there)) rfl rfl ?_ | refine OP.buildT rfl rfl rfl rfl ?_ | refine OP.capS rfl rfl rfl rfl rfl rfl ?_)
    | (refine WL.guardT rfl rfl rfl rfl ?_; first | refine OP.decT (nw := true) rfl trivial (by first | omega | assumption) rfl rfl ?_ | refine OP.decF (nw := true) rfl trivial (by first | omega | assumption) rfl rfl ?_ | refine OP.decNT (nw := true) rfl trivial (by first | omega | assumption) rfl rfl ?_ | refine OP.decNF (nw := true) rfl trivial (by first | omega | assumption) rfl rfl ?_ | refine OP.pickT rfl rfl rfl rfl rfl ?_ | refine OP.pickF rfl rfl rfl rfl rfl ?_ | refine OP.pure (nw := true) rfl (by first | exact trivial | (simp only [Holds]; omega) | (simp [Holds]; done) | (simp [Holds]; omega)) rfl rfl ?_ | refine OP.pure (nw := false) rfl trivial rfl rfl ?_ | refine OP.loadN rfl rfl rfl rfl (by repeat (first | exact HasNth.here rfl | apply HasNth.there)) rfl rfl ?_ | refine OP.loadB rfl rfl rfl rfl rfl (by repeat (first | exact HasCut.here rfl | apply HasCut.there)) rfl rfl ?_ | refine OP.buildT rfl rfl rfl rfl ?_)
    | refine WL.guardF rfl rfl rfl rfl rfl rfl ?_ | refine WL.guardU rfl rfl rfl rfl rfl rfl ?_ | refine WL.guarded (nw := true) rfl rfl rfl rfl rfl rfl rfl (by first | exact trivial | (simp only [Holds]; omega) | (simp [Holds]; done) | (simp [Holds]; omega)) ?_)
  exact hh.h) : P := s ⟨h⟩
end Go.GL
/- Maps whose keys are integers: assertions, and the operations that make, read, change them. -/
namespace Go.GL
open Go Go.MapKept
/-- an object that is no block of cells -/
def objA (r : Nat) (o : Obj) : Assn := fun h => h (r + 1) = some (.obj o)
theorem up_objA (r : Nat) (o : Obj) : Up (objA r o) := fun _ _ l e => l _ _ e
theorem Sat.newObj {L : List Assn} {w : World} (s : Sat L w) (o : Obj) : Sat (objA w.heap.size o :: L) { w with heap := w.heap.push o } := by
  refine ⟨fun b => if b = w.heap.size + 1 then some (.obj o) else none, hpOf w, ?_, ?_, by simp [objA], s⟩
  · intro b
    by_cases e : b = w.heap.size + 1
    · right; subst e; simp [hpOf]
    · left; simp [e]
  · funext b
    unfold Hp.join
    cases b with
    | zero => simp [hpOf]
    | succ b =>
      unfold hpOf
      by_cases e : b = w.heap.size
      · subst e; simp
      · have : ¬ (b + 1 = w.heap.size + 1) := by omega
        simp only [this, if_false, Option.none_or]
        rw [Array.getElem?_push]
        simp [e]
theorem Sat.obj {L : List Assn} {w : World} {r : Nat} {o : Obj} (s : Sat (objA r o :: L) w) : w.heap[r]? = some o := by
  obtain ⟨h1, h2, d, e, a, _⟩ := s
  have : hpOf w (r + 1) = some (.obj o) := by rw [e]; unfold objA at a; simp [Hp.join, a]
  exact hpOf_obj.1 this
theorem Sat.setObj {L : List Assn} {w : World} {r : Nat} {o : Obj} (s : Sat (objA r o :: L) w) (o' : Obj) : Sat (objA r o' :: L) { w with heap := w.heap.setIfInBounds r o' } := by
  have hb := s.obj
  have hlt : r < w.heap.size := (Array.getElem?_eq_some_iff.1 hb).1
  obtain ⟨h1, h2, d, e, a, s⟩ := s
  unfold objA at a
  have h2b : h2 (r + 1) = none := by
    rcases d (r + 1) with x | x
    · rw [x] at a; cases a
    · exact x
  refine ⟨fun x => if x = r + 1 then some (.obj o') else h1 x, h2, ?_, ?_, by simp [objA], s⟩
  · intro x
    by_cases ex : x = r + 1
    · subst ex; exact .inr h2b
    · simp only [ex, if_false]; exact d x
  · funext x
    have he : hpOf w x = Hp.join h1 h2 x := by rw [e]
    cases x with
    | zero => simpa [Hp.join, hpOf] using he
    | succ x =>
      by_cases ex : x = r
      · subst ex
        simp [Hp.join, hpOf, hlt]
      · have hx : ¬ (x + 1 = r + 1) := by omega
        simp only [Hp.join, hx, if_false]
        simp only [Hp.join] at he
        rw [← he]
        simp [hpOf, Ne.symm ex]
/-- a map's entries: what they say -/
structure MapEs (m : Int → Option Value) (es : Array MapEntry) (clock : Nat) : Prop where
  st : Stamped es clock
  keys : ∀ x ∈ es.toList, IsKey (.int .i64) x.key
  says : ∀ k v, m k = some v ↔ ∃ x ∈ es.toList, x.key = .int .i64 k ∧ x.val = v
def mapA (r : Nat) (m : Int → Option Value) : Assn := fun h => ∃ es clock, MapEs m es clock ∧ objA r (.map es clock) h
theorem up_mapA (r : Nat) (m : Int → Option Value) : Up (mapA r m) := fun _ _ l ⟨es, c, a, b⟩ => ⟨es, c, a, up_objA _ _ _ _ l b⟩
def updM (m : Int → Option Value) (k : Int) (v : Value) : Int → Option Value := fun x => if x = k then some v else m x
theorem MapEs.nil : MapEs (fun _ => none) #[] 0 := ⟨stamped_empty 0, by simp, by simp⟩
theorem MapEs.find {m : Int → Option Value} {es : Array MapEntry} {clock : Nat} (h : MapEs m es clock) (k : Int) :
    (m k = none ∧ Instr.findNow (.int .i64) (.int .i64 k) es.toList 0 = some none ∧ ∀ x ∈ es.toList, x.key ≠ .int .i64 k) ∨
    ∃ j e, m k = some e.val ∧ Instr.findNow (.int .i64) (.int .i64 k) es.toList 0 = some (some (j, e.val)) ∧ es.toList[j]? = some e ∧ e.key = .int .i64 k := by
  rcases findNow_spec (d := .int .i64) (k := .int .i64 k) rfl es.toList 0 h.keys with ⟨h1, h2⟩ | ⟨j, e, h1, h2, h3⟩
  · refine .inl ⟨?_, h1, h2⟩
    cases hm : m k with
    | none => rfl
    | some v =>
      obtain ⟨x, hx, hk, _⟩ := (h.says k v).1 hm
      exact absurd hk (h2 x hx)
  · refine .inr ⟨j, e, (h.says k e.val).2 ⟨e, List.mem_of_getElem? h2, h3, rfl⟩, by rw [h1, Nat.zero_add], h2, h3⟩
theorem stamped_key {es : Array MapEntry} {clock : Nat} (h : Stamped es clock) {x y : MapEntry} (hx : x ∈ es.toList) (hy : y ∈ es.toList) (e : x.key = y.key) : x = y := by
  obtain ⟨_, _, h3⟩ := h
  obtain ⟨i, hi, rfl⟩ := List.getElem_of_mem hx
  obtain ⟨j, hj, rfl⟩ := List.getElem_of_mem hy
  have hij : i = j := by
    have := (List.getElem_inj (i := i) (j := j) (h₀ := by simpa using hi) (h₁ := by simpa using hj) h3).1 (by simpa using e)
    exact this
  subst hij
  rfl
/-- an entry is put -/
theorem MapEs.push {m : Int → Option Value} {es : Array MapEntry} {clock : Nat} (h : MapEs m es clock) {k : Int} (v : Value) (hk : ∀ x ∈ es.toList, x.key ≠ .int .i64 k) : MapEs (updM m k v) (es.push { key := .int .i64 k, val := v, born := clock }) (clock + 1) := by
  refine ⟨stamped_push h.st hk, ?_, ?_⟩
  · intro x hx
    simp only [Array.toList_push, List.mem_append, List.mem_singleton] at hx
    rcases hx with hx | rfl
    · exact h.keys x hx
    · rfl
  · intro a u
    simp only [Array.toList_push, List.mem_append, List.mem_singleton]
    unfold updM
    constructor
    · intro e
      split at e
      · rename_i ha
        subst ha
        cases e
        exact ⟨_, .inr rfl, rfl, rfl⟩
      · obtain ⟨x, hx, h1, h2⟩ := (h.says a u).1 e
        exact ⟨x, .inl hx, h1, h2⟩
    · rintro ⟨x, hx | rfl, h1, h2⟩
      · have hne : a ≠ k := fun e => hk x hx (by rw [h1, e])
        rw [if_neg hne]
        exact (h.says a u).2 ⟨x, hx, h1, h2⟩
      · simp only [Value.int.injEq, true_and] at h1
        subst h1
        rw [if_pos rfl]
        exact congrArg some h2
theorem MapEs.modify {m : Int → Option Value} {es : Array MapEntry} {clock : Nat} (h : MapEs m es clock) {k : Int} (v : Value) {j : Nat} {e : MapEntry} (hj : es.toList[j]? = some e) (hk : e.key = .int .i64 k) : MapEs (updM m k v) (es.modify j (fun e' => { e' with key := .int .i64 k, val := v })) clock := by
  have hj' : es[j]? = some e := by simpa using hj
  have hkf : ∀ e', es[j]? = some e' → ({ e' with key := .int .i64 k, val := v } : MapEntry).key = e'.key := fun e' he' => by rw [hj'] at he'; cases he'; exact hk.symm
  refine ⟨stamped_modify h.st _ _ (fun _ _ => rfl) (fun e' _ he' => hkf e' he'), isKey_modify h.keys _ _ hkf, ?_⟩
  have hget : ∀ i, (es.modify j (fun e' => { e' with key := .int .i64 k, val := v })).toList[i]? = if i = j then some { e with key := .int .i64 k, val := v } else es.toList[i]? := fun i => by
    simp only [Array.getElem?_toList, Array.getElem?_modify]
    by_cases hij : j = i
    · subst hij; simp [hj']
    · simp [hij, Ne.symm hij]
  intro a u
  unfold updM
  constructor
  · intro hu
    split at hu
    · rename_i ha
      subst ha
      cases hu
      exact ⟨{ e with key := .int .i64 a, val := v }, List.mem_of_getElem? (i := j) (by rw [hget, if_pos rfl]), rfl, rfl⟩
    · rename_i ha
      obtain ⟨x, hx, h1, h2⟩ := (h.says a u).1 hu
      obtain ⟨i, hi, rfl⟩ := List.getElem_of_mem hx
      have hij : i ≠ j := fun hij => by
        subst hij
        rw [List.getElem?_eq_getElem hi] at hj
        cases hj
        rw [hk] at h1
        simp only [Value.int.injEq, true_and] at h1
        exact ha h1.symm
      exact ⟨_, List.mem_of_getElem? (i := i) (by rw [hget, if_neg hij]; exact List.getElem?_eq_getElem hi), h1, h2⟩
  · rintro ⟨x, hx, h1, h2⟩
    obtain ⟨i, hi, rfl⟩ := List.getElem_of_mem hx
    have hgi := hget i
    rw [List.getElem?_eq_getElem hi] at hgi
    by_cases hij : i = j
    · rw [if_pos hij] at hgi
      simp only [Option.some.injEq] at hgi
      rw [hgi] at h1 h2
      simp only [Value.int.injEq, true_and] at h1
      rw [if_pos h1.symm]
      exact congrArg some h2
    · rw [if_neg hij] at hgi
      have hm := List.mem_of_getElem? hgi.symm
      by_cases ha : a = k
      · subst ha
        have := stamped_key h.st hm (List.mem_of_getElem? hj) (by rw [h1, hk])
        have h4 : i = j := by
          obtain ⟨_, _, h3⟩ := h.st
          have hi2 := (List.getElem?_eq_some_iff.1 hgi.symm).1
          have hj2 := (List.getElem?_eq_some_iff.1 hj).1
          have e1 := (List.getElem?_eq_some_iff.1 hgi.symm).2
          have e2 := (List.getElem?_eq_some_iff.1 hj).2
          exact (List.getElem_inj (i := i) (j := j) (h₀ := by simpa using hi2) (h₁ := by simpa using hj2) h3).1 (by simp only [List.getElem_map, e1, e2, this])
        exact absurd h4 hij
      · rw [if_neg ha]
        exact (h.says a u).2 ⟨_, hm, h1, h2⟩
section
variable {G : Ctx} {N : Nat} {env : Env} {L : List Assn} {o : Oper} {post : Env → List Assn → Prop} {d : Nat}
theorem OP.makeMap {t : TypeId} {ti : TI} (ho : o.op = .makeMap t none) (hd : o.dst = some d) (hN : Nat.blt d N = true) (_ : G.T.find t = some ti)
    (h : ∀ b, post ((d, .val (.map (some b))) :: env) (mapA b (fun _ => none) :: L)) : OP G N o env L post := .mk fun a w ha hs => by
  have hr : (execOp a.eval o).run G.P w = .ok (.value (.map (some w.heap.size))) { w with heap := w.heap.push (.map #[] 0) } := by
    rw [execOp, ho]
    simp [Instr.makeMap]
  unfold Oper.wp
  rw [hr]
  simp only [Oper.upon, hd]
  exact ⟨_, _, ha.put hN _, stars_head_mono (fun k hk => ⟨#[], 0, MapEs.nil, hk⟩) (hs.newObj _), h _⟩
theorem run_zeroV {P : Program} {t : Nat} {i : TI} (h : TIOk P t i) (w : World) : (zeroValue t).run P w = .ok (zeroOf i) w := run_zero h w
/-- m[k], of a map that is not nil -/
theorem OP.lookup {t kt e : TypeId} {x ix : Operand} {tm tk te : TI} {r : Nat} {k : Int} {m : Int → Option Value} {z : Value} (ho : o.op = .lookup t x ix false) (hx : rd none env x = some (none, .map (some r))) (hi : rd none env ix = some (none, .int .i64 k))
    (ht : G.T.find t = some tm) (hdm : tm.desc = .map kt e) (htk : G.T.find kt = some tk) (hdk : tk.desc = .int .i64) (hte : G.T.find e = some te) (hz : zeroOf te = z) (hm : Ent L (mapA r m)) (hd : o.dst = some d) (hN : Nat.blt d N = true)
    (h : post ((d, .val ((m k).getD z)) :: env) L) : OP G N o env L post := by
  subst hz
  refine .run (fun a w ha hs => ?_) hd hN h
  obtain ⟨es, clock, he, hb⟩ := hm _ hs
  have hb' : w.heap[r]? = some (.map es clock) := hpOf_obj.1 hb
  have u : G.P.underlying t = some (.map kt e) := hdm ▸ (Tab.find_ok G.ok ht).desc
  have uk : G.P.underlying kt = some (.int .i64) := hdk ▸ (Tab.find_ok G.ok htk).desc
  rw [execOp, ho]
  rcases he.find k with ⟨h1, h2, _⟩ | ⟨j, en, h1, h2, _, _⟩
  · rw [h1]
    simp [Instr.lookup, run_underlying u, rd_plain hx ha, rd_plain hi ha, MapKept.run_getObj_map hb', run_checkKey (k := .int .i64 k) uk rfl, run_findKey uk h2, run_zeroV (Tab.find_ok G.ok hte)]
  · rw [h1]
    simp [Instr.lookup, run_underlying u, rd_plain hx ha, rd_plain hi ha, MapKept.run_getObj_map hb', run_checkKey (k := .int .i64 k) uk rfl, run_findKey uk h2]
/-- m[k], of a nil map -/
theorem OP.lookupNil {t kt e : TypeId} {x ix : Operand} {tm tk te : TI} {k : Int} {z : Value} (ho : o.op = .lookup t x ix false) (hx : rd none env x = some (none, .map none)) (hi : rd none env ix = some (none, .int .i64 k))
    (ht : G.T.find t = some tm) (hdm : tm.desc = .map kt e) (htk : G.T.find kt = some tk) (hdk : tk.desc = .int .i64) (hte : G.T.find e = some te) (hz : zeroOf te = z) (hd : o.dst = some d) (hN : Nat.blt d N = true)
    (h : post ((d, .val z) :: env) L) : OP G N o env L post := by
  subst hz
  refine .run (fun a w ha hs => ?_) hd hN h
  have u : G.P.underlying t = some (.map kt e) := hdm ▸ (Tab.find_ok G.ok ht).desc
  have uk : G.P.underlying kt = some (.int .i64) := hdk ▸ (Tab.find_ok G.ok htk).desc
  have h2 : Instr.findNow (.int .i64) (.int .i64 k) (#[] : Array MapEntry).toList 0 = some none := rfl
  rw [execOp, ho]
  simp [Instr.lookup, run_underlying u, rd_plain hx ha, rd_plain hi ha, run_checkKey (k := .int .i64 k) uk rfl, run_findKey uk (show Instr.findNow (.int .i64) (.int .i64 k) [] 0 = some none from rfl), run_zeroV (Tab.find_ok G.ok hte)]
/-- m[k] = v -/
theorem OP.mapUpdate {t kt e : TypeId} {x ix y : Operand} {tm tk : TI} {r : Nat} {k : Int} {v : Value} {m : Int → Option Value} {M : List Assn} (ho : o.op = .mapUpdate t x ix y) (hx : rd none env x = some (none, .map (some r))) (hi : rd none env ix = some (none, .int .i64 k)) (hy : rd none env y = some (none, v))
    (ht : G.T.find t = some tm) (hdm : tm.desc = .map kt e) (htk : G.T.find kt = some tk) (hdk : tk.desc = .int .i64) (hm : Imp L (mapA r m :: M)) (hd : o.dst = none)
    (h : post env (mapA r (updM m k v) :: M)) : OP G N o env L post := .mk fun a w ha hs => by
  have hs2 := hm.sat hs
  obtain ⟨h1, h2, dj, e', ⟨es, clock, he, hb⟩, rest⟩ := hs2
  have hsO : Sat (objA r (.map es clock) :: M) w := ⟨h1, h2, dj, e', hb, rest⟩
  have hb' := hsO.obj
  have u : G.P.underlying t = some (.map kt e) := hdm ▸ (Tab.find_ok G.ok ht).desc
  have uk : G.P.underlying kt = some (.int .i64) := hdk ▸ (Tab.find_ok G.ok htk).desc
  rcases he.find k with ⟨_, g2, g3⟩ | ⟨j, en, _, g2, g3, g4⟩
  · have hr : (execOp a.eval o).run G.P w = .ok .skip { w with heap := w.heap.setIfInBounds r (.map (es.push { key := .int .i64 k, val := v, born := clock }) (clock + 1)) } := by
      rw [execOp, ho]
      simp [Instr.mapUpdate, run_underlying u, rd_plain hx ha, rd_plain hi ha, rd_plain hy ha, MapKept.run_getObj_map hb', run_checkKey (k := .int .i64 k) uk rfl, run_findKey uk g2, MapKept.run_setObj_map _ hb', Result.andThen]
    unfold Oper.wp
    rw [hr]
    simp only [Oper.upon, hd]
    exact ⟨env, _, ha, stars_head_mono (fun k' hk' => ⟨_, _, he.push v g3, hk'⟩) (hsO.setObj _), h⟩
  · have g3' : es[j]? = some en := by simpa using g3
    have hr : (execOp a.eval o).run G.P w = .ok .skip { w with heap := w.heap.setIfInBounds r (.map (es.modify j (fun e' => { e' with key := .int .i64 k, val := v })) clock) } := by
      rw [execOp, ho]
      simp [Instr.mapUpdate, run_underlying u, rd_plain hx ha, rd_plain hi ha, rd_plain hy ha, MapKept.run_getObj_map hb', run_checkKey (k := .int .i64 k) uk rfl, run_findKey uk g2, g3', g4, run_keyThatStays (d := .int .i64) (k := .int .i64 k) rfl, MapKept.run_setObj_map _ hb', Result.andThen]
    unfold Oper.wp
    rw [hr]
    simp only [Oper.upon, hd]
    exact ⟨env, _, ha, stars_head_mono (fun k' hk' => ⟨_, _, he.modify v g3 g4, hk'⟩) (hsO.setObj _), h⟩
end
end Go.GL
/- What a contract of the library's shelf gives: new memory beside what was there. -/
namespace Go.GL
open Go Go.RowKit
theorem Ext.ofBelow {w w' : World} (h : Below w.heap.size w w') : Ext w w' := fun b o e => by
  cases b with
  | zero =>
    rw [hpOf_ghost] at e ⊢
    rw [h.os, h.output]; exact e
  | succ b =>
    cases o with
    | ghost _ _ => simp [hpOf] at e
    | obj o =>
      rw [hpOf_obj] at e ⊢
      have hlt : b < w.heap.size := (Array.getElem?_eq_some_iff.1 e).1
      rw [h.block b hlt]; exact e
/-- something that lies beyond all that was there -/
theorem Sat.fresh {M : List Assn} {w w' : World} {A : Assn} (s : Sat M w) (x : Ext w w') {g : Nat} (hg : w.heap.size ≤ g) {o : Obj} (ho : w'.heap[g]? = some o) (hA : ∀ h : Hp, h (g + 1) = some (.obj o) → A h) : Sat (A :: M) w' := by
  have hnone : hpOf w (g + 1) = none := hpOf_none.2 (Array.getElem?_eq_none hg)
  refine ⟨fun b => if b = g + 1 then some (.obj o) else none, Hp.minus (hpOf w') (fun b => if b = g + 1 then some (.obj o) else none), Hp.disj_minus _ _, Hp.join_minus (fun b u e => ?_), hA _ (by simp), stars_mono (fun b u e => ?_) s⟩
  · by_cases hb : b = g + 1
    · subst hb
      simp only [if_pos] at e
      cases e
      exact hpOf_obj.2 ho
    · simp [hb] at e
  · by_cases hb : b = g + 1
    · subst hb; rw [hnone] at e; cases e
    · unfold Hp.minus
      simp [hb, x b u e]
/-- a new slice -/
theorem Sat.ofRow {M : List Assn} {w w' : World} {T n : Nat} {v : Value} {xs : List Value} (s : Sat M w) (hb : Below w.heap.size w w') (hr : w'.ownsRow w.heap.size T 1 v n xs) : ∃ a cap, v = .slice a n cap ∧ Sat (ownS a n cap T 1 xs :: M) w' := by
  obtain ⟨hl, ⟨rfl, rfl⟩ | ⟨g, cap, cur, rfl, hg, ho, hle, _, hsz, htk⟩⟩ := hr
  · refine ⟨none, 0, rfl, ?_⟩
    have : xs = [] := List.eq_nil_of_length_eq_zero (by omega)
    subst this
    exact (Imp.nilS T 1).sat (s.ext (Ext.ofBelow hb))
  · refine ⟨some ⟨g, 0, none⟩, cap, rfl, s.fresh (Ext.ofBelow hb) hg ho (fun h hh => ⟨hl, hle, .inr ⟨g, [], cur.toList.drop (n * 1), rfl, ?_, ⟨(0, 0), ?_, .inl (Nat.le_refl _)⟩⟩⟩)⟩
    · rw [List.length_drop, hl]
      have : cur.toList.length = cap * 1 := by simpa using hsz
      omega
    · rw [hh]
      have : ([] ++ xs ++ cur.toList.drop (n * 1)).toArray = cur := by
        rw [List.nil_append, ← htk, List.take_append_drop]
      rw [this]
end Go.GL
/- Maps: ranges over them, entries that are deleted, comparison with nil. -/
namespace Go.GL
open Go Go.MapKept
open Go.ChangeMaps (setBlock)
def delM (m : Int → Option Value) (k : Int) : Int → Option Value := fun x => if x = k then none else m x
theorem MapEs.erase {m : Int → Option Value} {es : Array MapEntry} {clock : Nat} (h : MapEs m es clock) {k : Int} {j : Nat} {e : MapEntry} (hj : es.toList[j]? = some e) (hk : e.key = .int .i64 k) : MapEs (delM m k) (es.eraseIdxIfInBounds j) clock ∧ ∀ x ∈ (es.eraseIdxIfInBounds j).toList, x ∈ es.toList := by
  have hjl : j < es.size := by simpa using (List.getElem?_eq_some_iff.1 hj).1
  have hsub : (es.eraseIdxIfInBounds j).toList = es.toList.eraseIdx j := by
    unfold Array.eraseIdxIfInBounds
    rw [dif_pos hjl]
    simp
  have hin : ∀ x ∈ es.toList.eraseIdx j, x ∈ es.toList := fun x hx => (List.eraseIdx_sublist _ _).subset hx
  have hne : ∀ x ∈ es.toList.eraseIdx j, x.key ≠ .int .i64 k := fun x hx hxk => by
    have he : x = e := stamped_key h.st (hin x hx) (List.mem_of_getElem? hj) (by rw [hxk, hk])
    subst he
    obtain ⟨i, hi, hx2⟩ := List.mem_eraseIdx_iff_getElem.1 hx
    obtain ⟨_, _, h3⟩ := h.st
    obtain ⟨hne, hx3⟩ := hx2
    have hjl2 : j < es.toList.length := (List.getElem?_eq_some_iff.1 hj).1
    have e2 := (List.getElem?_eq_some_iff.1 hj).2
    have hi2 : i < es.toList.length := hi
    exact hne ((List.getElem_inj (i := i) (j := j) (h₀ := by simpa using hi2) (h₁ := by simpa using hjl2) h3).1 (by simp only [List.getElem_map, e2, hx3]))
  have hback : ∀ x ∈ es.toList, x.key ≠ .int .i64 k → x ∈ es.toList.eraseIdx j := fun x hx hxk => by
    obtain ⟨i, hi, rfl⟩ := List.getElem_of_mem hx
    refine List.mem_eraseIdx_iff_getElem.2 ⟨i, hi, ⟨fun hij => ?_, rfl⟩⟩
    subst hij
    have e2 := (List.getElem?_eq_some_iff.1 hj).2
    rw [e2] at hxk
    exact hxk hk
  refine ⟨⟨stamped_erase h.st j, fun x hx => h.keys x (hin x (hsub ▸ hx)), fun a u => ?_⟩, fun x hx => hin x (hsub ▸ hx)⟩
  rw [hsub]
  unfold delM
  constructor
  · intro hu
    split at hu
    · cases hu
    · rename_i ha
      obtain ⟨x, hx, h1, h2⟩ := (h.says a u).1 hu
      exact ⟨x, hback x hx (fun h3 => ha (by rw [h1] at h3; simpa using h3)), h1, h2⟩
  · rintro ⟨x, hx, h1, h2⟩
    have ha : a ≠ k := fun e => hne x hx (by rw [h1, e])
    rw [if_neg ha]
    exact (h.says a u).2 ⟨x, hin x hx, h1, h2⟩
section
variable {G : Ctx} {N : Nat} {env : Env} {L : List Assn} {o : Oper} {post : Env → List Assn → Prop} {d : Nat}
/-- range m -/
theorem OP.rangeMap {t kt e : TypeId} {x : Operand} {tm : TI} {r : Nat} {es : Array MapEntry} {clock : Nat} (ho : o.op = .range t x) (hx : rd none env x = some (none, .map (some r)))
    (ht : G.T.find t = some tm) (hdm : tm.desc = .map kt e) (hm : Ent L (objA r (.map es clock))) (hd : o.dst = some d) (hN : Nat.blt d N = true)
    (h : ∀ it, post ((d, .val (.pointer (some ⟨it, 0, none⟩))) :: env) (objA it (.mapIter (some r) clock #[] clock) :: L)) : OP G N o env L post := .mk fun a w ha hs => by
  have hb : w.heap[r]? = some (.map es clock) := hpOf_obj.1 (hm _ hs)
  have u : G.P.underlying t = some (.map kt e) := hdm ▸ (Tab.find_ok G.ok ht).desc
  have hr : (execOp a.eval o).run G.P w = .ok (.value (.pointer (some ⟨w.heap.size, 0, none⟩))) { w with heap := w.heap.push (.mapIter (some r) clock #[] clock) } := by
    rw [execOp, ho]
    simp [Instr.range, run_underlying u, rd_plain hx ha, MapKept.run_getObj_map hb]
  unfold Oper.wp
  rw [hr]
  simp only [Oper.upon, hd]
  exact ⟨_, _, ha.put hN _, hs.newObj _, h _⟩
/-- range of a nil map -/
theorem OP.rangeNil {t kt e : TypeId} {x : Operand} {tm : TI} (ho : o.op = .range t x) (hx : rd none env x = some (none, .map none))
    (ht : G.T.find t = some tm) (hdm : tm.desc = .map kt e) (hd : o.dst = some d) (hN : Nat.blt d N = true)
    (h : ∀ it, post ((d, .val (.pointer (some ⟨it, 0, none⟩))) :: env) (objA it (.mapIter none 0 #[] 0) :: L)) : OP G N o env L post := .mk fun a w ha hs => by
  have u : G.P.underlying t = some (.map kt e) := hdm ▸ (Tab.find_ok G.ok ht).desc
  have hr : (execOp a.eval o).run G.P w = .ok (.value (.pointer (some ⟨w.heap.size, 0, none⟩))) { w with heap := w.heap.push (.mapIter none 0 #[] 0) } := by
    rw [execOp, ho]
    simp [Instr.range, run_underlying u, rd_plain hx ha]
  unfold Oper.wp
  rw [hr]
  simp only [Oper.upon, hd]
  exact ⟨_, _, ha.put hN _, hs.newObj _, h _⟩
theorem OP.nextNil {x : Operand} {it : Nat} (ho : o.op = .next x false) (hx : rd none env x = some (none, .pointer (some ⟨it, 0, none⟩))) (hm : Ent L (objA it (.mapIter none 0 #[] 0))) (hd : o.dst = some d) (hN : Nat.blt d N = true)
    (h : post ((d, .val (.tuple #[.bool false])) :: env) L) : OP G N o env L post :=
  .run (fun a w ha hs => by
    have hb : w.heap[it]? = some (.mapIter none 0 #[] 0) := hpOf_obj.1 (hm _ hs)
    rw [execOp, ho]
    simp [Instr.next, rd_plain hx ha, getObj, Sem.run, hb, Result.andThen]) hd hN h
/-- the next entry, whichever it is -/
theorem OP.nextMap {x : Operand} {it r since c0 : Nat} {seen : Array Nat} {es : Array MapEntry} {clock : Nat} {M : List Assn} (ho : o.op = .next x false) (hx : rd none env x = some (none, .pointer (some ⟨it, 0, none⟩)))
    (hI : Imp L (objA it (.mapIter (some r) since seen c0) :: M)) (hm : Ent M (objA r (.map es clock))) (hold : ∀ x ∈ es.toList, x.born < since) (hsc : since ≤ c0) (hd : o.dst = some d) (hN : Nat.blt d N = true)
    (h0 : (∀ e ∈ es.toList, seen.contains e.born = true) → post ((d, .val (.tuple #[.bool false])) :: env) (objA it (.mapIter (some r) since seen c0) :: M))
    (h1 : ∀ e ∈ es.toList, seen.contains e.born = false → post ((d, .val (.tuple #[.bool true, e.key, e.val])) :: env) (objA it (.mapIter (some r) since (seen.push e.born) clock) :: M)) : OP G N o env L post := .mk fun a w ha hs => by
  have hs2 := hI.sat hs
  have hit := hs2.obj
  have hb : w.heap[r]? = some (.map es clock) := hpOf_obj.1 (hm _ (stars_drop hs2))
  have hx2 : (execOp a.eval o).run G.P w = ((Instr.next (.pointer (some ⟨it, 0, none⟩)) false o.type).run G.P w).andThen fun v w' => .ok (.value v) w' := by
    rw [execOp, ho]
    simp only [rd_plain hx ha, Sem.run_bind, Sem.run_pure]
  unfold Oper.wp
  rcases run_next_at (P := G.P) w o.type it r since c0 seen es clock hit hb hold hsc with ⟨hz, hr⟩ | ⟨e, he, w1, hw, hr⟩
  · rw [hx2, hr]
    simp only [Result.andThen, Oper.upon, hd]
    refine ⟨_, _, ha.put hN _, hs2, h0 fun e he => ?_⟩
    cases hc : seen.contains e.born with
    | true => rfl
    | false =>
      have hm2 : e ∈ leftOf es seen := by unfold leftOf; rw [Array.mem_filter]; exact ⟨by simpa using he, by rw [hc]; rfl⟩
      have := Array.eq_empty_of_size_eq_zero hz
      rw [this] at hm2
      simp at hm2
  · rw [hx2, hr]
    simp only [Result.andThen, Oper.upon, hd]
    have he2 : e ∈ es.toList ∧ seen.contains e.born = false := by
      have : e ∈ leftOf es seen := by simpa using he
      unfold leftOf at this
      rw [Array.mem_filter] at this
      exact ⟨by simpa using this.1, by simpa using this.2⟩
    refine ⟨_, _, ha.put hN _, ?_, h1 e he2.1 he2.2⟩
    have hsw : Sat (objA it (.mapIter (some r) since seen c0) :: M) w1 := by rcases hw with rfl | rfl <;> exact hs2
    exact hsw.setObj _
/-- what the step handed out -/
theorem OP.entry {x : Operand} {it r since : Nat} {seen : Array Nat} {es : Array MapEntry} {clock : Nat} {e : MapEntry} (ho : o.op = .entry x) (hx : rd none env x = some (none, .pointer (some ⟨it, 0, none⟩)))
    (hI : Ent L (objA it (.mapIter (some r) since (seen.push e.born) clock))) (hm : Ent L (objA r (.map es clock))) (he : e ∈ es.toList) (st : Stamped es clock) (hd : o.dst = some d) (hN : Nat.blt d N = true)
    (h : post ((d, .val (.tuple #[e.key, e.val])) :: env) L) : OP G N o env L post :=
  .run (fun a w ha hs => by
    have hit : w.heap[it]? = some (.mapIter (some r) since (seen.push e.born) clock) := hpOf_obj.1 (hI _ hs)
    have hb : w.heap[r]? = some (.map es clock) := hpOf_obj.1 (hm _ hs)
    rw [execOp, ho]
    simp [rd_plain hx ha, run_entry_at w it r since seen es clock e hit hb he st.2.1]) hd hN h
/-- delete(m, k) -/
theorem OP.delete {x y : Operand} {t t2 kt e : TypeId} {tm tk : TI} {r : Nat} {k : Int} {m : Int → Option Value} {es : Array MapEntry} {clock : Nat} {M : List Assn} (ho : o.op = .call ⟨.builtin .delete, #[x, y], #[t, t2]⟩) (hx : rd none env x = some (none, .map (some r))) (hy : rd none env y = some (none, .int .i64 k))
    (ht : G.T.find t = some tm) (hdm : tm.desc = .map kt e) (htk : G.T.find kt = some tk) (hdk : tk.desc = .int .i64) (hI : Imp L (objA r (.map es clock) :: M)) (he : MapEs m es clock) (hd : o.dst = none)
    (h : ∀ es', MapEs (delM m k) es' clock → (∀ x ∈ es'.toList, x ∈ es.toList) → post env (objA r (.map es' clock) :: M)) : OP G N o env L post := .mk fun a w ha hs => by
  have hs2 := hI.sat hs
  have hb := hs2.obj
  have u : G.P.underlying t = some (.map kt e) := hdm ▸ (Tab.find_ok G.ok ht).desc
  have uk : G.P.underlying kt = some (.int .i64) := hdk ▸ (Tab.find_ok G.ok htk).desc
  unfold Oper.wp
  rcases he.find k with ⟨g1, g2, g3⟩ | ⟨j, en, g1, g2, g3, g4⟩
  · have hr : (execOp a.eval o).run G.P w = .ok (.value (.tuple #[])) { w with heap := w.heap.setIfInBounds r (.map es clock) } := by
      rw [execOp, ho]
      simp [resolve, invoke, builtin, Builtin.delete_, run_underlying u, rd_plain hx ha, rd_plain hy ha, MapKept.run_getObj_map hb, run_checkKey (k := .int .i64 k) uk rfl, run_findKey uk g2, MapKept.run_setObj_map _ hb, Result.andThen]
    rw [hr]
    simp only [Oper.upon, hd]
    refine ⟨_, _, ha.none _, hs2.setObj _, h es ⟨he.st, he.keys, fun a u => ?_⟩ fun _ hx => hx⟩
    have hdm : delM m k = m := by
      funext z
      unfold delM
      split
      · rename_i hz; rw [hz, g1]
      · rfl
    rw [hdm]
    exact he.says a u
  · obtain ⟨h5, h6⟩ := he.erase g3 g4
    have hr : (execOp a.eval o).run G.P w = .ok (.value (.tuple #[])) { w with heap := w.heap.setIfInBounds r (.map (es.eraseIdxIfInBounds j) clock) } := by
      rw [execOp, ho]
      simp [resolve, invoke, builtin, Builtin.delete_, run_underlying u, rd_plain hx ha, rd_plain hy ha, MapKept.run_getObj_map hb, run_checkKey (k := .int .i64 k) uk rfl, run_findKey uk g2, MapKept.run_setObj_map _ hb, Result.andThen]
    rw [hr]
    simp only [Oper.upon, hd]
    exact ⟨_, _, ha.none _, hs2.setObj _, h _ h5 h6⟩
theorem equalIn_map_nil {P : Program} {t kt e : TypeId} (d : Nat) (h : P.underlying t = some (.map kt e)) (mo : Option Nat) (w : World) : (Op.equalIn (d + 1) t (.map mo) (.map none)).run P w = .ok mo.isNone w := by
  cases mo <;> simp [Op.equalIn, run_underlying h]
/-- m == nil -/
theorem OP.mapNil {t kt e : TypeId} {x : Operand} {tm : TI} {mo : Option Nat} (ho : o.op = .binOp .eql t x (.const (.map none)) t) (hx : rd none env x = some (none, .map mo))
    (ht : G.T.find t = some tm) (hdm : tm.desc = .map kt e) (hd : o.dst = some d) (hN : Nat.blt d N = true)
    (h : post ((d, .val (.bool mo.isNone)) :: env) L) : OP G N o env L post :=
  .run (fun a w ha hs => by
    have u : G.P.underlying t = some (.map kt e) := hdm ▸ (Tab.find_ok G.ok ht).desc
    have e1 : (Op.equalIn 10000 t (.map mo) (.map none)).run G.P w = .ok mo.isNone w := equalIn_map_nil 9999 u mo w
    have e2 := bin_eq (x := .map mo) (y := .map none) (t := t) rfl e1
    have e3 : (eqGuard .eql t x (.const (.map none)) (.map mo) (.map none)).run G.P w = .ok () w := guard_free (fun _ _ h => by cases h.1) (fun h => by cases h)
    rw [execOp, ho]
    simp only [rd_plain hx ha, show a.eval (.const (.map none)) = .map none from rfl, Sem.run_bind, e3, e2, Result.andThen_ok, Sem.run_pure]) hd hN h
end
end Go.GL
