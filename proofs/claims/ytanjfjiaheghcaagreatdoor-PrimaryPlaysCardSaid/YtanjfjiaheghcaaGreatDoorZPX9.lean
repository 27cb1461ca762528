/- Contracts of functions of the given program, and plain laws: parts of the proofs of laws. -/
import Derived.Test.YtanjfjiaheghcaaGreatDoorZPX3
import Derived.Test.YtanjfjiaheghcaaGreatDoorZPX8
import Derived.Test.YtanjfjiaheghcaaGreatDoorZPX7
import Derived.MapKept
import Derived.Below
import Derived.Laws.AppendOwn
import Derived.Maps.RangeRun
import Derived.Test.YtanjfjiaheghcaaGreatDoorZPX5
import Derived.Test.YtanjfjiaheghcaaGreatDoorZPX6
/- Contracts of functions of the given program, and plain laws on what they compute: parts of the proofs of laws. -/
namespace Go.Proofs.YtanjfjiaheghcaaGreatDoor
open Go Go.GL

/-! a primary's calls: what they keep -/
theorem checkS_code {s : St} {e now k : Int} (h : checkS s e now = some k) : k = 10 ∨ k = 11 := by
  unfold checkS at h
  split at h
  · cases h; exact .inl rfl
  · split at h
    · cases h; exact .inr rfl
    · cases h
theorem checkS_ne {s : St} {e now k : Int} (h : checkS s e now = some k) : k ≠ 0 := by rcases checkS_code h with h | h <;> (rw [h]; decide)
theorem grantS_code {s : St} {e now k : Int} (h : (grantS s e now).1 = some k) : k ≠ 0 := by
  unfold grantS at h
  split at h
  · cases h; decide
  split at h
  · cases h; decide
  · cases h
theorem doP_ne {P : Pri} {B : Int} (I : PInv P B) (hB : B + 4 ≤ widest) {c : Call} (hc : RightC c) {now : Int} {l : List (ByteArray × Int)} {k : Int} (h : doP (P.at_ now) c = .error (l, k)) : k ≠ 0 := by
  rcases (I.at_ now).do_ hB hc with ⟨_, h'⟩ | ⟨_, P', h', _⟩
  · rw [h] at h'
    cases h'
    decide
  · rw [h] at h'
    cases h'
structure DidP (P : Pri) (c : Call) (P' : Pri) : Prop where
  k : LetK P P'
  held : P'.V.J.held = P.V.J.held ++ [(P.V.J.hd.gen, (P.V.J.next, 1, c.2.1, c.2.2, 0))]
  blks : P'.V.blks = P.V.blks.set c.2.1.toNat (P.V.J.next, c.2.2)
theorem PInv.write {P : Pri} {B : Int} (I : PInv P B) (hB : B + 4 ≤ widest) (c : Call) (e now : Int) : PInv (writeP P c e now).2 (B + 2) ∧
    ((∃ er, (writeP P c e now).1 = .error er ∧ er.2 ≠ 0 ∧ (writeP P c e now).2 = P.at_ now) ∨
     ((writeP P c e now).1 = .ok 0 ∧ P.G.round ≠ 0 ∧ RightC c ∧ (writeP P c e now).2 = { P.at_ now with G := { P.G with wait := P.G.wait ++ [c] } } ∧ P.G.wait.length < 4) ∨
     (P.G.round = 0 ∧ RightC c ∧ (writeP P c e now).1 = .ok P.V.J.next ∧ DidP P c (writeP P c e now).2)) := by
  have Ia := I.at_ now
  have Im := Ia.mono (show B ≤ B + 2 by omega)
  unfold writeP
  cases hk : checkS P.S e now with
  | some k => exact ⟨Im, .inl ⟨_, rfl, checkS_ne hk, rfl⟩⟩
  | none =>
    dsimp only
    by_cases h1 : 0 ≤ c.2.1 ∧ c.2.1 < 8
    rotate_left
    · rw [if_pos h1]; exact ⟨Im, .inl ⟨_, rfl, (by decide : (5 : Int) ≠ 0), rfl⟩⟩
    rw [if_neg (fun h => h h1)]
    by_cases h2 : 16 < c.2.2.size
    · rw [if_pos h2]; exact ⟨Im, .inl ⟨_, rfl, (by decide : (1 : Int) ≠ 0), rfl⟩⟩
    rw [if_neg h2]
    have hc : RightC c := ⟨h1, by omega⟩
    unfold enterP
    by_cases h0 : P.G.round = 0
    · have h0' : (P.at_ now).G.round = 0 := h0
      rw [if_pos h0']
      rcases Ia.do_ hB hc with ⟨_, h⟩ | ⟨_, P', h, I', e1, e2, e3, e4, e5, e6, e7, e8, e9, _⟩
      · rw [h]; exact ⟨Im, .inl ⟨_, rfl, by show (6 : Int) ≠ 0; decide, rfl⟩⟩
      · rw [h]
        exact ⟨I', .inr (.inr ⟨h0, hc, rfl, ⟨e5, e7, e8, e9, e3, e4, by rw [e6]; rfl, by rw [e6]; rfl⟩, e1, e2⟩)⟩
    · have h0' : ¬ (P.at_ now).G.round = 0 := h0
      rw [if_neg h0']
      by_cases h4 : 4 ≤ P.G.wait.length
      · have h4' : 4 ≤ (P.at_ now).G.wait.length := h4
        rw [if_pos h4']; exact ⟨Im, .inl ⟨_, rfl, by show (7 : Int) ≠ 0; decide, rfl⟩⟩
      · have h4' : ¬ 4 ≤ (P.at_ now).G.wait.length := h4
        rw [if_neg h4']
        refine ⟨{ Im with few := ?_, wr := ?_, opn := fun h => absurd h h0 }, .inr (.inl ⟨rfl, h0, hc, rfl, by omega⟩)⟩
        · show (P.G.wait ++ [c]).length ≤ 4
          rw [List.length_append, List.length_singleton]; omega
        · intro x hx
          rcases List.mem_append.1 hx with hx | hx
          · exact I.wr x hx
          · rw [List.mem_singleton.1 hx]; exact hc
theorem grantS_ok {s : St} (h : (0 ≤ s.now ∧ s.now ≤ big60) ∧ 0 ≤ s.til ∧ s.til ≤ big60 + 10) (e now : Int) : (0 ≤ (grantS s e now).2.now ∧ (grantS s e now).2.now ≤ big60) ∧ 0 ≤ (grantS s e now).2.til ∧ (grantS s e now).2.til ≤ big60 + 10 := by
  have ha := St.at_ok h now
  unfold grantS
  split
  · exact ha
  split
  · exact ha
  · refine ⟨ha.1, ?_⟩
    show 0 ≤ (s.at_ now).now + 10 ∧ (s.at_ now).now + 10 ≤ big60 + 10
    omega
theorem PInv.grant {P : Pri} {B : Int} (I : PInv P B) (e now : Int) : PInv (grantP P e now).2 B ∧ (grantP P e now).2 = { P with S := (grantS P.S e now).2 } ∧ (∀ er, (grantP P e now).1 = some er → er.2 ≠ 0) := by
  unfold grantP
  refine ⟨{ I with st := grantS_ok I.st e now }, rfl, fun er h => ?_⟩
  cases hq : (grantS P.S e now).1 with
  | none => rw [hq] at h; cases h
  | some c => rw [hq] at h; cases h; exact grantS_code hq
theorem PInv.thaw {P : Pri} {B : Int} (I : PInv P B) (hB : B + 12 ≤ widest) (round now : Int) : PInv (thawP P round now).2.2 (B + 8) ∧
    (((∃ er, (thawP P round now).2.1 = some er ∧ er.2 ≠ 0) ∧ (thawP P round now).1 = [] ∧ (thawP P round now).2.2 = P) ∨
     (P.G.round ≠ 0 ∧ (thawP P round now).2.1 = none ∧ (thawP P round now).1 = (Go.Proofs.YtanjfjiaheghcaaGreatDoor.letP { P with G := P.G.opened } now P.G.wait).1 ∧ (thawP P round now).2.2 = (Go.Proofs.YtanjfjiaheghcaaGreatDoor.letP { P with G := P.G.opened } now P.G.wait).2)) := by
  unfold thawP thawG
  have hf := I.few
  by_cases h : P.G.round = 0 ∨ P.G.round ≠ round
  · rw [if_pos h]
    exact ⟨I.mono (by omega), .inl ⟨⟨_, rfl, (by decide : (9 : Int) ≠ 0)⟩, rfl, rfl⟩⟩
  · rw [if_neg h]
    refine ⟨((I.opened.letP (now := now) (l := P.G.wait) (by omega) I.wr).1).mono (by omega), .inr ⟨fun e => h (.inl e), rfl, rfl, rfl⟩⟩
theorem PInv.tick {P : Pri} {B : Int} (I : PInv P B) (hB : B + 12 ≤ widest) (now : Int) : PInv (tickP P now).2 (B + 8) ∧
    (((tickP P now).1 = [] ∧ ∃ left, (tickP P now).2 = { P with G := { P.G with left := left } }) ∨
     (P.G.round ≠ 0 ∧ (tickP P now).1 = (Go.Proofs.YtanjfjiaheghcaaGreatDoor.letP { P with G := P.G.opened } now P.G.wait).1 ∧ (tickP P now).2 = (Go.Proofs.YtanjfjiaheghcaaGreatDoor.letP { P with G := P.G.opened } now P.G.wait).2)) := by
  unfold tickP tickG
  have hf := I.few
  have hl := I.left
  by_cases h0 : P.G.round = 0
  · rw [if_pos h0]
    exact ⟨I.mono (by omega), .inl ⟨rfl, P.G.left, rfl⟩⟩
  rw [if_neg h0]
  by_cases h1 : 0 < P.G.left - 1
  · rw [if_pos h1]
    exact ⟨{ I.mono (show B ≤ B + 8 by omega) with left := by show 0 ≤ P.G.left - 1 ∧ P.G.left - 1 ≤ 6; omega }, .inl ⟨rfl, _, rfl⟩⟩
  · rw [if_neg h1]
    refine ⟨((I.opened.letP (now := now) (l := P.G.wait) (by omega) I.wr).1).mono (by omega), .inr ⟨h0, rfl, rfl⟩⟩
theorem PInv.markd {P : Pri} {B : Int} (I : PInv P B) (hB : B + 4 ≤ widest) (round : Int) : PInv (markP P round).2 (B + 2) ∧
    (((∃ er, (markP P round).1 = some er ∧ er.2 ≠ 0) ∧ (markP P round).2 = P) ∨
     (1 ≤ round ∧ P.G.round = round ∧ (markP P round).1 = none ∧ (((markP P round).2 = P ∧ P.marked = round) ∨
      (P.marked ≠ round ∧ (markP P round).2.marked = round ∧ (markP P round).2.V.J.held = P.V.J.held ++ [(P.V.J.hd.gen, (P.V.J.next, 2, 0, ⟨#[]⟩, round))] ∧ (markP P round).2.V.blks = P.V.blks ∧ (markP P round).2.V.J.hd = P.V.J.hd ∧ (markP P round).2.V.J.ring = P.V.J.ring ∧ (markP P round).2.G = P.G ∧ (markP P round).2.S = P.S ∧ (markP P round).2.floor = P.floor ∧ (markP P round).2.acked = P.acked)))) := by
  have hfr := I.fr
  have hrn := I.rnd
  unfold markP
  by_cases h1 : round < 1 ∨ P.G.round ≠ round
  · rw [if_pos h1]
    exact ⟨I.mono (by omega), .inl ⟨⟨_, rfl, (by decide : (9 : Int) ≠ 0)⟩, rfl⟩⟩
  rw [if_neg h1]
  have hr1 : 1 ≤ round := by omega
  have hr2 : P.G.round = round := by omega
  by_cases h2 : P.marked = round
  · rw [if_pos h2]
    exact ⟨I.mono (by omega), .inr ⟨hr1, hr2, rfl, .inl ⟨rfl, h2⟩⟩⟩
  rw [if_neg h2]
  rcases I.mark hB (n := round) (by omega) with ⟨_, h⟩ | ⟨_, V', D', h, I', e1, e2, e3, e4, _⟩
  · rw [h]
    exact ⟨I.mono (by omega), .inl ⟨⟨_, rfl, by show (6 : Int) ≠ 0; decide⟩, rfl⟩⟩
  · rw [h]
    exact ⟨I', .inr ⟨hr1, hr2, rfl, .inr ⟨h2, rfl, e1, e2, e3, e4, rfl, rfl, rfl, rfl⟩⟩⟩
theorem PInv.acks {P : Pri} {B : Int} (I : PInv P B) (hB : B + 4 ≤ widest) (upto : Int) : PInv (ackP P upto).2 (B + 2) ∧
    ((((∃ er, (ackP P upto).1 = some er ∧ er.2 ≠ 0) ∨ (ackP P upto).1 = none) ∧ (ackP P upto).2 = P) ∨
     (P.acked < upto ∧ upto < P.V.J.next ∧ (ackP P upto).1 = none ∧ (ackP P upto).2.acked = upto ∧ (ackP P upto).2.V.blks = P.V.blks ∧ (ackP P upto).2.V.J.next = P.V.J.next ∧ (ackP P upto).2.V.J.ring = P.V.J.ring ∧ (ackP P upto).2.V.J.hd.first = upto + 1
      ∧ (ackP P upto).2.V.J.held = P.V.J.held.drop (upto - P.acked).toNat ∧ (ackP P upto).2.G = P.G ∧ (ackP P upto).2.S = P.S ∧ (ackP P upto).2.floor = P.floor ∧ (ackP P upto).2.marked = P.marked)) := by
  unfold ackP
  by_cases h1 : upto < 0 ∨ P.V.J.next ≤ upto
  · rw [if_pos h1]
    exact ⟨I.mono (by omega), .inl ⟨.inl ⟨_, rfl, (by decide : (5 : Int) ≠ 0)⟩, rfl⟩⟩
  rw [if_neg h1]
  by_cases h2 : upto ≤ P.acked
  · rw [if_pos h2]
    exact ⟨I.mono (by omega), .inl ⟨.inr rfl, rfl⟩⟩
  rw [if_neg h2]
  obtain ⟨V', D', h, I', e1, e2, e3, e4, e5, _⟩ := I.ackd hB h1 h2
  rw [h]
  exact ⟨I', .inr ⟨by omega, by omega, rfl, rfl, e1, e3, e2, e4, e5, rfl, rfl, rfl, rfl⟩⟩
/-- a primary on an empty disk -/
theorem PInv.fresh {ring : Nat} (h1 : 1 ≤ ring) (h2 : ring ≤ 512) : ∃ V D, openV (Dsk.new (ring + 11 : Nat)) ring = .ok (V, D) ∧ PInv (beginP V D 0) 3 ∧ V.J.ring = ring ∧ V.J.held = [] ∧ V.J.next = 1 ∧ V.blks = List.replicate 8 plc0 ∧ D.S.length = ring + 11 ∧ D.W = [] ∧ D.S.getD (ring + 10) [] = zero64 := by
  obtain ⟨ho, I⟩ := VInv.fresh (n := ring + 11) (ring := ring) h1 h2 (by omega) (by omega)
  obtain ⟨hS, hl⟩ := openV_S rfl ho
  have hn : (Dsk.new ((ring + 11 : Nat) : Int)).S = List.replicate (ring + 11) zero64 := by
    unfold Dsk.new
    rw [show (max 0 (min ((ring + 11 : Nat) : Int) 1024)).toNat = ring + 11 by omega]
  have hln : (Dsk.new ((ring + 11 : Nat) : Int)).S.length = ring + 11 := by rw [hn, List.length_replicate]
  have hz : (saveM (Dsk.new ((ring + 11 : Nat) : Int)) ⟨1, 1, 1, 0⟩).S.getD (ring + 10) [] = zero64 := by
    rw [hS _ (by omega), hn, List.getD_eq_getElem?_getD, List.getElem?_replicate, if_pos (by omega)]
    rfl
  refine ⟨_, _, ho, ⟨I, ?_, hz, ⟨Int.le_refl _, (by decide : (0 : Int) ≤ widest)⟩, rfl, .inl rfl, ⟨Int.le_refl _, (by decide : (0 : Int) ≤ 6)⟩, Nat.zero_le _, (fun _ h => nomatch h), fun _ => rfl, rfl, st0_ok⟩, rfl, rfl, rfl, rfl, by rw [hl, hln], rfl, hz⟩
  show ring + 11 ≤ (saveM (Dsk.new ((ring + 11 : Nat) : Int)) ⟨1, 1, 1, 0⟩).S.length
  rw [hl, hln]
  exact Nat.le_refl _
end Go.Proofs.YtanjfjiaheghcaaGreatDoor
/- Contracts of functions of the given program, and plain laws on what they compute: parts of the proofs of laws. -/

namespace Go.Proofs.YtanjfjiaheghcaaGreatDoor
open Go Go.GL

/-! a primary's floor -/
def FlOk (b : List UInt8) (x : Int) (e : Int) : Prop := e = 0 ∧ 0 < x ∧ sectorM (numB (clampN x)) = b
instance (b : List UInt8) (x e : Int) : Decidable (FlOk b x e) := by unfold FlOk; infer_instance
def floorM (b : List UInt8) : Option Int :=
  if b = zero64 then some 0
  else if OpenOk b ∧ FlOk b (numR (b.take (b.length - 4), 0)).1 (numR (b.take (b.length - 4), 0)).2.2 then some (numR (b.take (b.length - 4), 0)).1 else none
theorem flB_len (n : Int) : (numB (clampN n)).length ≤ 60 := by have := numB_nine n; omega
theorem floor_pad {n : Int} (h : 0 ≤ n ∧ n ≤ widest) : numR (padM (numB (clampN n)), 0) = (n, (List.replicate (60 - (numB (clampN n)).length) 0, 0)) := by
  have e : padM (numB (clampN n)) = numB (clampN n) ++ List.replicate (60 - (numB (clampN n)).length) 0 := rfl
  rw [e, numR_numB h]
theorem floorM_floorS {n : Int} (h : 0 ≤ n ∧ n ≤ widest) : floorM (floorS n) = some n := by
  unfold floorS
  by_cases h0 : n = 0
  · rw [if_pos h0]
    unfold floorM
    rw [if_pos rfl, h0]
  rw [if_neg h0]
  obtain ⟨o1, o2⟩ := openOk_sector (flB_len n)
  have hp := floor_pad h
  have hne : sectorM (numB (clampN n)) ≠ zero64 := by
    intro e
    rw [e] at o2
    rw [← o2] at hp
    have h4 : (numR (zero64.take (zero64.length - 4), 0)).1 = 0 := by decide
    rw [hp] at h4
    exact h0 h4
  unfold floorM
  rw [if_neg hne, o2, hp]
  dsimp only
  rw [if_pos ⟨o1, rfl, by omega, rfl⟩]
set_option maxRecDepth 10000 in
theorem fsector_rt (n : Int) : RT G 62 [.int .i64 n] (fun _ => True) (BytesNew (sectorM (numB (clampN n)))) := by
  refine RT.enter Tryz.func62 rfl (by decide) rfl Tryz.ntmps62 rfl (fun A hu hA => ?_)
  have h1 := numB_nine n
  repeat (first | refine GO ?_ | refine NW fun _ => ?_)
  refine WL.step rfl (OP.call (pre := [ownS none 0 0 5 1 (([] : List UInt8).map byteV)]) rfl rfl (number_ok none 0 0 [] n (by omega)) (Imp.nilS 5 1) rfl rfl ?_)
  rintro _ _ ⟨a1, cap1, rfl, rfl⟩
  repeat (first | refine GO ?_ | refine NW fun _ => ?_)
  rw [List.nil_append, Nat.zero_add]
  refine WL.step rfl (OP.callRT rfl rfl (sector_ok a1 _ cap1 (numB (clampN n)) rfl (flB_len n)) (Ent.own (T := 5) MM) rfl rfl ?_)
  rintro _ _ ⟨v1, rfl, a6, cap6, rfl, rfl⟩
  repeat (first | refine GO ?_ | refine NW fun _ => ?_)
  exact ret1 rfl ⟨[_], ⟨a6, cap6, rfl, rfl⟩, II⟩
def FloorPost (l : List UInt8) (v : Value) : Prop := match floorM l with
  | some x => v = .tuple #[.int .i64 x, .bool true]
  | none => ∃ x, v = .tuple #[.int .i64 x, .bool false]
set_option maxHeartbeats 4000000 in
set_option maxRecDepth 10000 in
theorem floorOf_rt (a : Option Addr) (n c : Nat) (l : List UInt8) (hn : n = l.length) (hc : n ≤ c) (hs : n = 64) : RT G 88 [.slice a n c] (readS a n 1 (l.map byteV)) (fun v E => FloorPost l v ∧ E = []) := by
  refine RT.enter Tryz.func88 rfl (by decide) rfl Tryz.ntmps88 rfl (fun A hu hA => ?_)
  have hE : ∀ {L}, A ∈ L → Ent L (readS a n 1 (l.map byteV)) := fun m => Ent.mem m hu hA
  repeat (first | refine GD ?_ | refine NW fun _ => ?_)
  refine WL.step rfl (OP.makeS (z := [.int .u8 0]) rfl rfl rfl rfl rfl rfl rfl rfl (by decide) (by decide) (by decide) rfl rfl (fun bz => ?_))
  have hz : repL [Value.int .u8 0] (Int.toNat 64) = zero64.map byteV := by rw [repL_bytes]; rfl
  rw [hz]
  refine WL.step rfl (OP.callRO rfl rfl (beq_ro a (some ⟨bz, 0, none⟩) n c _ _ l zero64) (Ent.and (hE MM) (Ent.own (T := 5) MM)) rfl rfl ?_)
  by_cases h0 : l = zero64
  · rw [decide_eq_true h0]
    have hdec : floorM l = some 0 := by unfold floorM; rw [if_pos h0]
    repeat (first | refine GD ?_ | refine NW fun _ => ?_)
    refine ret2 rfl rfl ⟨[], ⟨?_, rfl⟩, II⟩
    unfold FloorPost
    rw [hdec]
  rw [decide_eq_false h0]
  have hdef : floorM l = if OpenOk l ∧ FlOk l (numR (l.take (l.length - 4), 0)).1 (numR (l.take (l.length - 4), 0)).2.2 then some (numR (l.take (l.length - 4), 0)).1 else none := by unfold floorM; rw [if_neg h0]
  repeat (first | refine GD ?_ | refine NW fun _ => ?_)
  refine WL.step rfl (OP.callRT rfl rfl (open_ok a n c l hn hc (by omega)) (hE MM) rfl rfl ?_)
  rintro v E hO
  unfold OpenPost at hO
  have hl4 : (l.take (l.length - 4)).length < 1000000 := by rw [List.length_take]; omega
  by_cases ho : OpenOk l
  rotate_left
  · rw [if_neg ho] at hO
    obtain ⟨rfl, rfl⟩ := hO
    have hdec : floorM l = none := by rw [hdef, if_neg (fun h => ho h.1)]
    refine WL.imp (Imp.nilS 5 1) ?_
    have hby : Bytes (ownS none 0 0 5 1 (([] : List UInt8).map byteV)) [] (.slice none 0 0) := ⟨none, 0, 0, rfl, rfl, Nat.le_refl _, fun h x => read_of_own x⟩
    have huO : Up (ownS none 0 0 5 1 (([] : List UInt8).map byteV)) := up_ownS _ _ _ _ _ _
    generalize hOO : ownS none 0 0 5 1 (([] : List UInt8).map byteV) = O at *
    rw [show ownS none 0 0 5 1 [] = O from hOO]
    repeat (first | refine GD ?_ | refine NW fun _ => ?_)
    refine WL.step rfl (OP.callRT rfl rfl (read0_ok none 0 0) (fun _ _ => trivial) rfl rfl ?_)
    rintro v E ⟨r, rfl, rfl⟩
    repeat (first | refine GD ?_ | refine NW fun _ => ?_)
    refine WL.step rfl (OP.call (pre := [blk r [.slice none 0 0, .int .i64 0] 240, O]) rfl rfl (numR_ok r _ ([], 0) O huO hby (by decide)) PS rfl rfl ?_)
    rintro _ _ ⟨rfl, vy, hy, rfl⟩
    generalize numR ([], 0) = y at *
    obtain ⟨x, ly, ey⟩ := y
    dsimp only
    repeat (first | refine GD ?_ | refine NW fun _ => ?_)
    refine ret2 rfl rfl ⟨[], ⟨?_, rfl⟩, II⟩
    unfold FloorPost
    rw [hdec]
    exact ⟨x, rfl⟩
  rw [if_pos ho] at hO
  obtain ⟨v1, rfl, a2, cap2, rfl, rfl⟩ := hO
  have hdR : floorM l = if FlOk l (numR (l.take (l.length - 4), 0)).1 (numR (l.take (l.length - 4), 0)).2.2 then some (numR (l.take (l.length - 4), 0)).1 else none := by
    rw [hdef]
    by_cases hk : FlOk l (numR (l.take (l.length - 4), 0)).1 (numR (l.take (l.length - 4), 0)).2.2
    · rw [if_pos ⟨ho, hk⟩, if_pos hk]
    · rw [if_neg (fun h => hk h.2), if_neg hk]
  clear hdef
  generalize l.take (l.length - 4) = l4 at *
  refine WL.fact (Ent.ownLe (a := a2) (n := l4.length) (cap := cap2) (T := 5) (size := 1) (cs := l4.map byteV) MM) (fun hc2 => ?_)
  have hby : Bytes (ownS a2 l4.length cap2 5 1 (l4.map byteV)) l4 (.slice a2 l4.length cap2) := ⟨a2, l4.length, cap2, rfl, rfl, hc2, fun h x => read_of_own x⟩
  generalize hO : ownS a2 l4.length cap2 5 1 (l4.map byteV) = O at *
  have huO : Up O := by rw [← hO]; exact up_ownS _ _ _ _ _ _
  repeat (first | refine GD ?_ | refine NW fun _ => ?_)
  refine WL.step rfl (OP.callRT rfl rfl (read0_ok a2 l4.length cap2) (fun _ _ => trivial) rfl rfl ?_)
  rintro v E ⟨r, rfl, rfl⟩
  repeat (first | refine GD ?_ | refine NW fun _ => ?_)
  refine WL.step rfl (OP.call (pre := [blk r [.slice a2 l4.length cap2, .int .i64 0] 240, O]) rfl rfl (numR_ok r _ (l4, 0) O huO hby hl4) PS rfl rfl ?_)
  rintro _ _ ⟨rfl, vy, hy, rfl⟩
  generalize numR (l4, 0) = y at *
  obtain ⟨x, ly, ey⟩ := y
  dsimp only at hdR hy ⊢
  repeat (first | refine GD ?_ | refine NW fun _ => ?_)
  refine WL.guardT rfl rfl rfl rfl (OP.callRO rfl rfl (err_ro r vy ey) (Ent.whole (T := 240) MM) rfl rfl ?_)
  by_cases he : ey = 0
  rotate_left
  · have hdec : floorM l = none := by rw [hdR, if_neg (fun h => he h.1)]
    repeat (first | refine GD ?_ | refine NW fun _ => ?_)
    refine ret2 rfl rfl ⟨[], ⟨?_, rfl⟩, II⟩
    unfold FloorPost
    rw [hdec]
    exact ⟨x, rfl⟩
  by_cases h1 : 0 < x
  rotate_left
  · have hdec : floorM l = none := by rw [hdR, if_neg (fun h => h1 h.2.1)]
    repeat (first | refine GD ?_ | refine NW fun _ => ?_)
    refine ret2 rfl rfl ⟨[], ⟨?_, rfl⟩, II⟩
    unfold FloorPost
    rw [hdec]
    exact ⟨x, rfl⟩
  have hsec := fsector_rt x
  repeat (first | refine GD ?_ | refine NW fun _ => ?_)
  refine WL.guardT rfl rfl rfl rfl (OP.callRT rfl rfl hsec (fun _ _ => trivial) rfl rfl ?_)
  rintro _ _ ⟨a6, cap6, rfl, rfl⟩
  repeat (first | refine GD ?_ | refine NW fun _ => ?_)
  refine WL.guardT rfl rfl rfl rfl (OP.callRO rfl rfl (beq_ro a6 a _ cap6 n c (sectorM (numB (clampN x))) l) (Ent.and (Ent.own (T := 5) MM) (hE MM)) rfl rfl ?_)
  by_cases h4 : sectorM (numB (clampN x)) = l
  · have hdec : floorM l = some x := by rw [hdR, if_pos ⟨he, h1, h4⟩]
    rw [decide_eq_true h4]
    repeat (first | refine GD ?_ | refine NW fun _ => ?_)
    refine ret2 rfl rfl ⟨[], ⟨?_, rfl⟩, II⟩
    unfold FloorPost
    rw [hdec]
    rfl
  · have hdec : floorM l = none := by rw [hdR, if_neg (fun h => h4 h.2.2)]
    rw [decide_eq_false h4]
    repeat (first | refine GD ?_ | refine NW fun _ => ?_)
    refine ret2 rfl rfl ⟨[], ⟨?_, rfl⟩, II⟩
    unfold FloorPost
    rw [hdec]
    exact ⟨x, rfl⟩
end Go.Proofs.YtanjfjiaheghcaaGreatDoor
/- A short word: the steps that store nothing. -/
namespace Go.GL
open Go
theorem GS {P Q : Prop} (h : Q) (s : Hd Q → P := by
  intro hh
  (first
    | refine WC.seq ?_ | refine WC.region ?_ | refine WL.nil ?_ | with_reducible refine seqK.go ?_ | refine WC.block ?_ | refine WC.skip ?_ | refine WC.exit ?_ | refine WC.ret ?_
    | with_reducible refine seqK.exit ?_ | with_reducible refine seqK.ret ?_ | (with_reducible refine blockK.hit ?hb ?_; (case hb => rfl)) | (with_reducible refine blockK.miss ?hb ?_; (case hb => rfl)) | with_reducible refine blockK.normal ?_ | with_reducible refine blockK.ret ?_ | with_reducible refine loopK.exit ?_ | with_reducible refine loopK.ret ?_
    | refine WC.condT rfl ?_ | refine WC.condF rfl ?_
    | (refine WL.step rfl ?_; first | refine OP.decT (nw := true) rfl trivial (by first | omega | assumption) rfl rfl ?_ | refine OP.decF (nw := true) rfl trivial (by first | omega | assumption) rfl rfl ?_ | refine OP.decNT (nw := true) rfl trivial (by first | omega | assumption) rfl rfl ?_ | refine OP.decNF (nw := true) rfl trivial (by first | omega | assumption) rfl rfl ?_ | refine OP.pure (nw := true) rfl (by first | exact trivial | (simp only [Holds]; omega) | (simp [Holds]; done) | (simp [Holds]; omega)) rfl rfl ?_ | refine OP.pure (nw := false) rfl (by first | exact trivial | (simp only [Holds]; omega) | (simp [Holds]; done) | (simp [Holds]; omega)) rfl rfl ?_ | refine OP.pickT rfl rfl rfl rfl rfl ?_ | refine OP.pickF rfl rfl rfl rfl rfl ?_ | refine OP.loadN rfl rfl rfl rfl (by repeat (first | exact HasNth.here rfl | apply HasNth.there)) rfl rfl ?_ | refine OP.loadB rfl rfl rfl rfl rfl (by repeat (first | exact HasCut.here rfl | apply HasCut.there)) rfl rfl ?_ | refine OP.buildT rfl rfl rfl rfl ?_ | refine OP.capS rfl rfl rfl rfl rfl rfl ?_)
    | (refine WL.guardT rfl rfl rfl rfl ?_; first | refine OP.decT (nw := true) rfl trivial (by first | omega | assumption) rfl rfl ?_ | refine OP.decF (nw := true) rfl trivial (by first | omega | assumption) rfl rfl ?_ | refine OP.decNT (nw := true) rfl trivial (by first | omega | assumption) rfl rfl ?_ | refine OP.decNF (nw := true) rfl trivial (by first | omega | assumption) rfl rfl ?_ | refine OP.pickT rfl rfl rfl rfl rfl ?_ | refine OP.pickF rfl rfl rfl rfl rfl ?_ | refine OP.pure (nw := true) rfl (by first | exact trivial | (simp only [Holds]; omega) | (simp [Holds]; done) | (simp [Holds]; omega)) rfl rfl ?_ | refine OP.pure (nw := false) rfl trivial rfl rfl ?_ | refine OP.loadN rfl rfl rfl rfl (by repeat (first | exact HasNth.here rfl | apply HasNth.there)) rfl rfl ?_ | refine OP.loadB rfl rfl rfl rfl rfl (by repeat (first | exact HasCut.here rfl | apply HasCut.there)) rfl rfl ?_ | refine OP.buildT rfl rfl rfl rfl ?_)
    | refine WL.guardF rfl rfl rfl rfl rfl rfl ?_ | refine WL.guardU rfl rfl rfl rfl rfl rfl ?_ | refine WL.guarded (nw := true) rfl rfl rfl rfl rfl rfl rfl (by first | exact trivial | (simp only [Holds]; omega) | (simp [Holds]; done) | (simp [Holds]; omega)) ?_)
  repeat (first
    | refine WC.seq ?_ | refine WC.region ?_ | refine WL.nil ?_ | with_reducible refine seqK.go ?_ | refine WC.block ?_ | refine WC.skip ?_ | refine WC.exit ?_ | refine WC.ret ?_
    | with_reducible refine seqK.exit ?_ | with_reducible refine seqK.ret ?_ | (with_reducible refine blockK.hit ?hb ?_; (case hb => rfl)) | (with_reducible refine blockK.miss ?hb ?_; (case hb => rfl)) | with_reducible refine blockK.normal ?_ | with_reducible refine blockK.ret ?_ | with_reducible refine loopK.exit ?_ | with_reducible refine loopK.ret ?_
    | refine WC.condT rfl ?_ | refine WC.condF rfl ?_
    | (refine WL.step rfl ?_; first | refine OP.decT (nw := true) rfl trivial (by first | omega | assumption) rfl rfl ?_ | refine OP.decF (nw := true) rfl trivial (by first | omega | assumption) rfl rfl ?_ | refine OP.decNT (nw := true) rfl trivial (by first | omega | assumption) rfl rfl ?_ | refine OP.decNF (nw := true) rfl trivial (by first | omega | assumption) rfl rfl ?_ | refine OP.pure (nw := true) rfl (by first | exact trivial | (simp only [Holds]; omega) | (simp [Holds]; done) | (simp [Holds]; omega)) rfl rfl ?_ | refine OP.pure (nw := false) rfl (by first | exact trivial | (simp only [Holds]; omega) | (simp [Holds]; done) | (simp [Holds]; omega)) rfl rfl ?_ | refine OP.pickT rfl rfl rfl rfl rfl ?_ | refine OP.pickF rfl rfl rfl rfl rfl ?_ | refine OP.loadN rfl rfl rfl rfl (by repeat (first | exact HasNth.here rfl | apply HasNth.there)) rfl rfl ?_ | refine OP.loadB rfl rfl rfl rfl rfl (by repeat (first | exact HasCut.here rfl | apply HasCut.there)) rfl rfl ?_ | refine OP.buildT rfl rfl rfl rfl ?_ | refine OP.capS rfl rfl rfl rfl rfl rfl ?_)
    | (refine WL.guardT rfl rfl rfl rfl ?_; first | refine OP.decT (nw := true) rfl trivial (by first | omega | assumption) rfl rfl ?_ | refine OP.decF (nw := true) rfl trivial (by first | omega | assumption) rfl rfl ?_ | refine OP.decNT (nw := true) rfl trivial (by first | omega | assumption) rfl rfl ?_ | refine OP.decNF (nw := true) rfl trivial (by first | omega | assumption) rfl rfl ?_ | refine OP.pickT rfl rfl rfl rfl rfl ?_ | refine OP.pickF rfl rfl rfl rfl rfl ?_ | refine OP.pure (nw := true) rfl (by first | exact trivial | (simp only [Holds]; omega) | (simp [Holds]; done) | (simp [Holds]; omega)) rfl rfl ?_ | refine OP.pure (nw := false) rfl trivial rfl rfl ?_ | refine OP.loadN rfl rfl rfl rfl (by repeat (first | exact HasNth.here rfl | apply HasNth.there)) rfl rfl ?_ | refine OP.loadB rfl rfl rfl rfl rfl (by repeat (first | exact HasCut.here rfl | apply HasCut.there)) rfl rfl ?_ | refine OP.buildT rfl rfl rfl rfl ?_)
    | refine WL.guardF rfl rfl rfl rfl rfl rfl ?_ | refine WL.guardU rfl rfl rfl rfl rfl rfl ?_ | refine WL.guarded (nw := true) rfl rfl rfl rfl rfl rfl rfl (by first | exact trivial | (simp only [Holds]; omega) | (simp [Holds]; done) | (simp [Holds]; omega)) ?_)
  exact hh.h) : P := s ⟨h⟩
end Go.GL
/- Maps whose keys are integers: assertions, and the operations that make, read, change them. -/
namespace Go.GL
open Go Go.MapKept
/-- an object that is no block of cells -/
def objA (r : Nat) (o : Obj) : Assn := fun h => h (r + 1) = some (.obj o)
theorem Sat.obj {L : List Assn} {w : World} {r : Nat} {o : Obj} (s : Sat (objA r o :: L) w) : w.heap[r]? = some o := by
  obtain ⟨h1, h2, d, e, a, _⟩ := s
  have : hpOf w (r + 1) = some (.obj o) := by rw [e]; unfold objA at a; simp [Hp.join, a]
  exact hpOf_obj.1 this
/-- a map's entries: what they say -/
structure MapEs (m : Int → Option Value) (es : Array MapEntry) (clock : Nat) : Prop where
  st : Stamped es clock
  keys : ∀ x ∈ es.toList, IsKey (.int .i64) x.key
  says : ∀ k v, m k = some v ↔ ∃ x ∈ es.toList, x.key = .int .i64 k ∧ x.val = v
def updM (m : Int → Option Value) (k : Int) (v : Value) : Int → Option Value := fun x => if x = k then some v else m x
theorem MapEs.nil : MapEs (fun _ => none) #[] 0 := ⟨stamped_empty 0, by simp, by simp⟩
theorem MapEs.find {m : Int → Option Value} {es : Array MapEntry} {clock : Nat} (h : MapEs m es clock) (k : Int) :
    (m k = none ∧ Instr.findNow (.int .i64) (.int .i64 k) es.toList 0 = some none ∧ ∀ x ∈ es.toList, x.key ≠ .int .i64 k) ∨
    ∃ j e, m k = some e.val ∧ Instr.findNow (.int .i64) (.int .i64 k) es.toList 0 = some (some (j, e.val)) ∧ es.toList[j]? = some e ∧ e.key = .int .i64 k := by
  rcases findNow_spec (d := .int .i64) (k := .int .i64 k) rfl es.toList 0 h.keys with ⟨h1, h2⟩ | ⟨j, e, h1, h2, h3⟩
  · refine .inl ⟨?_, h1, h2⟩
    cases hm : m k with
    | none => rfl
    | some v =>
      obtain ⟨x, hx, hk, _⟩ := (h.says k v).1 hm
      exact absurd hk (h2 x hx)
  · refine .inr ⟨j, e, (h.says k e.val).2 ⟨e, List.mem_of_getElem? h2, h3, rfl⟩, by rw [h1, Nat.zero_add], h2, h3⟩
theorem stamped_key {es : Array MapEntry} {clock : Nat} (h : Stamped es clock) {x y : MapEntry} (hx : x ∈ es.toList) (hy : y ∈ es.toList) (e : x.key = y.key) : x = y := by
  obtain ⟨_, _, h3⟩ := h
  obtain ⟨i, hi, rfl⟩ := List.getElem_of_mem hx
  obtain ⟨j, hj, rfl⟩ := List.getElem_of_mem hy
  have hij : i = j := by
    have := (List.getElem_inj (i := i) (j := j) (h₀ := by simpa using hi) (h₁ := by simpa using hj) h3).1 (by simpa using e)
    exact this
  subst hij
  rfl
/-- an entry is put -/
theorem MapEs.push {m : Int → Option Value} {es : Array MapEntry} {clock : Nat} (h : MapEs m es clock) {k : Int} (v : Value) (hk : ∀ x ∈ es.toList, x.key ≠ .int .i64 k) : MapEs (updM m k v) (es.push { key := .int .i64 k, val := v, born := clock }) (clock + 1) := by
  refine ⟨stamped_push h.st hk, ?_, ?_⟩
  · intro x hx
    simp only [Array.toList_push, List.mem_append, List.mem_singleton] at hx
    rcases hx with hx | rfl
    · exact h.keys x hx
    · rfl
  · intro a u
    simp only [Array.toList_push, List.mem_append, List.mem_singleton]
    unfold updM
    constructor
    · intro e
      split at e
      · rename_i ha
        subst ha
        cases e
        exact ⟨_, .inr rfl, rfl, rfl⟩
      · obtain ⟨x, hx, h1, h2⟩ := (h.says a u).1 e
        exact ⟨x, .inl hx, h1, h2⟩
    · rintro ⟨x, hx | rfl, h1, h2⟩
      · have hne : a ≠ k := fun e => hk x hx (by rw [h1, e])
        rw [if_neg hne]
        exact (h.says a u).2 ⟨x, hx, h1, h2⟩
      · simp only [Value.int.injEq, true_and] at h1
        subst h1
        rw [if_pos rfl]
        exact congrArg some h2
theorem MapEs.modify {m : Int → Option Value} {es : Array MapEntry} {clock : Nat} (h : MapEs m es clock) {k : Int} (v : Value) {j : Nat} {e : MapEntry} (hj : es.toList[j]? = some e) (hk : e.key = .int .i64 k) : MapEs (updM m k v) (es.modify j (fun e' => { e' with key := .int .i64 k, val := v })) clock := by
  have hj' : es[j]? = some e := by simpa using hj
  have hkf : ∀ e', es[j]? = some e' → ({ e' with key := .int .i64 k, val := v } : MapEntry).key = e'.key := fun e' he' => by rw [hj'] at he'; cases he'; exact hk.symm
  refine ⟨stamped_modify h.st _ _ (fun _ _ => rfl) (fun e' _ he' => hkf e' he'), isKey_modify h.keys _ _ hkf, ?_⟩
  have hget : ∀ i, (es.modify j (fun e' => { e' with key := .int .i64 k, val := v })).toList[i]? = if i = j then some { e with key := .int .i64 k, val := v } else es.toList[i]? := fun i => by
    simp only [Array.getElem?_toList, Array.getElem?_modify]
    by_cases hij : j = i
    · subst hij; simp [hj']
    · simp [hij, Ne.symm hij]
  intro a u
  unfold updM
  constructor
  · intro hu
    split at hu
    · rename_i ha
      subst ha
      cases hu
      exact ⟨{ e with key := .int .i64 a, val := v }, List.mem_of_getElem? (i := j) (by rw [hget, if_pos rfl]), rfl, rfl⟩
    · rename_i ha
      obtain ⟨x, hx, h1, h2⟩ := (h.says a u).1 hu
      obtain ⟨i, hi, rfl⟩ := List.getElem_of_mem hx
      have hij : i ≠ j := fun hij => by
        subst hij
        rw [List.getElem?_eq_getElem hi] at hj
        cases hj
        rw [hk] at h1
        simp only [Value.int.injEq, true_and] at h1
        exact ha h1.symm
      exact ⟨_, List.mem_of_getElem? (i := i) (by rw [hget, if_neg hij]; exact List.getElem?_eq_getElem hi), h1, h2⟩
  · rintro ⟨x, hx, h1, h2⟩
    obtain ⟨i, hi, rfl⟩ := List.getElem_of_mem hx
    have hgi := hget i
    rw [List.getElem?_eq_getElem hi] at hgi
    by_cases hij : i = j
    · rw [if_pos hij] at hgi
      simp only [Option.some.injEq] at hgi
      rw [hgi] at h1 h2
      simp only [Value.int.injEq, true_and] at h1
      rw [if_pos h1.symm]
      exact congrArg some h2
    · rw [if_neg hij] at hgi
      have hm := List.mem_of_getElem? hgi.symm
      by_cases ha : a = k
      · subst ha
        have := stamped_key h.st hm (List.mem_of_getElem? hj) (by rw [h1, hk])
        have h4 : i = j := by
          obtain ⟨_, _, h3⟩ := h.st
          have hi2 := (List.getElem?_eq_some_iff.1 hgi.symm).1
          have hj2 := (List.getElem?_eq_some_iff.1 hj).1
          have e1 := (List.getElem?_eq_some_iff.1 hgi.symm).2
          have e2 := (List.getElem?_eq_some_iff.1 hj).2
          exact (List.getElem_inj (i := i) (j := j) (h₀ := by simpa using hi2) (h₁ := by simpa using hj2) h3).1 (by simp only [List.getElem_map, e1, e2, this])
        exact absurd h4 hij
      · rw [if_neg ha]
        exact (h.says a u).2 ⟨_, hm, h1, h2⟩
section
variable {G : Ctx} {N : Nat} {env : Env} {L : List Assn} {o : Oper} {post : Env → List Assn → Prop} {d : Nat}
end
end Go.GL
/- What a contract of the library's shelf gives: new memory beside what was there. -/
namespace Go.GL
open Go Go.RowKit
/-- something that lies beyond all that was there -/
theorem Sat.fresh {M : List Assn} {w w' : World} {A : Assn} (s : Sat M w) (x : Ext w w') {g : Nat} (hg : w.heap.size ≤ g) {o : Obj} (ho : w'.heap[g]? = some o) (hA : ∀ h : Hp, h (g + 1) = some (.obj o) → A h) : Sat (A :: M) w' := by
  have hnone : hpOf w (g + 1) = none := hpOf_none.2 (Array.getElem?_eq_none hg)
  refine ⟨fun b => if b = g + 1 then some (.obj o) else none, Hp.minus (hpOf w') (fun b => if b = g + 1 then some (.obj o) else none), Hp.disj_minus _ _, Hp.join_minus (fun b u e => ?_), hA _ (by simp), stars_mono (fun b u e => ?_) s⟩
  · by_cases hb : b = g + 1
    · subst hb
      simp only [if_pos] at e
      cases e
      exact hpOf_obj.2 ho
    · simp [hb] at e
  · by_cases hb : b = g + 1
    · subst hb; rw [hnone] at e; cases e
    · unfold Hp.minus
      simp [hb, x b u e]
end Go.GL
/- Maps: ranges over them, entries that are deleted, comparison with nil. -/
namespace Go.GL
open Go Go.MapKept
open Go.ChangeMaps (setBlock)
section
variable {G : Ctx} {N : Nat} {env : Env} {L : List Assn} {o : Oper} {post : Env → List Assn → Prop} {d : Nat}
/-- what the step handed out -/
theorem OP.entry {x : Operand} {it r since : Nat} {seen : Array Nat} {es : Array MapEntry} {clock : Nat} {e : MapEntry} (ho : o.op = .entry x) (hx : rd none env x = some (none, .pointer (some ⟨it, 0, none⟩)))
    (hI : Ent L (objA it (.mapIter (some r) since (seen.push e.born) clock))) (hm : Ent L (objA r (.map es clock))) (he : e ∈ es.toList) (st : Stamped es clock) (hd : o.dst = some d) (hN : Nat.blt d N = true)
    (h : post ((d, .val (.tuple #[e.key, e.val])) :: env) L) : OP G N o env L post :=
  .run (fun a w ha hs => by
    have hit : w.heap[it]? = some (.mapIter (some r) since (seen.push e.born) clock) := hpOf_obj.1 (hI _ hs)
    have hb : w.heap[r]? = some (.map es clock) := hpOf_obj.1 (hm _ hs)
    rw [execOp, ho]
    simp [rd_plain hx ha, run_entry_at w it r since seen es clock e hit hb he st.2.1]) hd hN h
end
end Go.GL
/- Slices cut off at the front; a slice with three bounds; two pointers compared. -/
namespace Go.GL
open Go
section
variable {G : Ctx} {N : Nat} {env : Env} {L : List Assn} {o : Oper} {post : Env → List Assn → Prop} {d : Nat}
end
theorem Imp.pureB {L : List Assn} {p : Prop} (h : p) : Imp L ((fun _ => p) :: L) := fun k s => ⟨Hp.empty, k, fun _ => .inl rfl, by funext b; simp [Hp.join, Hp.empty], h, s⟩
end Go.GL
/- Two branches that meet again, behind the rest of a region. -/
namespace Go.GL
open Go
theorem wpList_mono {P : Program} {ops : Array Oper} {Q Q' : Exit → Act → World → Prop} (hq : ∀ e a w, Q e a w → Q' e a w) : ∀ (l : List Oper) (a : Act) (w : World), wpList P ops Q l a w → wpList P ops Q' l a w
  | [], _, _, h => hq _ _ _ h
  | o :: l, a, w, h => by
    unfold wpList at h ⊢
    split at h
    · rename_i hw
      rw [if_pos hw]
      rcases h with h | ⟨h1, a2, w2, h2⟩
      · exact .inl (wp_oper_mono (fun a w x => wpList_mono hq l a w x) hq h)
      · exact .inr ⟨h1, a2, w2, hq _ _ _ h2⟩
    · rename_i hw
      rw [if_neg hw]
      exact wpList_mono hq l _ _ h
theorem WL.mono {G : Ctx} {N : Nat} {ops : Array Oper} {rest : List Oper} {env : Env} {L : List Assn} {k k' : Kont} (h : WL G N ops rest env L k) (f : ∀ e env L, k e env L → k' e env L) : WL G N ops rest env L k' :=
  .mk fun a w ha hs => wpList_mono (lift_mono f) _ _ _ (h a w ha hs)
/-- the rest of a region and the code behind it up to a point, where what holds is told anew -/
theorem WL.meet {G : Ctx} {N : Nat} {ops : Array Oper} {rest : List Oper} {env : Env} {L : List Assn} {x y : Code} {k : Kont} (k' : Env → List Assn → Prop) (hx : WL G N ops rest env L (seqK G N x (fun e E M => match e with | .normal => k' E M | e => k e E M)))
    (hy : ∀ E M, k' E M → WC G N y E M k) : WL G N ops rest env L (seqK G N (.seq x y) k) :=
  hx.mono (fun e E M h => by
    cases e with
    | normal => exact WC.meet k' h hy
    | _ => exact h)
theorem meetK {G : Ctx} {N : Nat} {x y : Code} {k : Kont} {k' : Env → List Assn → Prop} (hy : ∀ E M, k' E M → WC G N y E M k) : ∀ e E M, seqK G N x (fun e E M => match e with | .normal => k' E M | e => k e E M) e E M → seqK G N (.seq x y) k e E M := fun e E M h => by
  cases e with
  | normal => exact WC.meet k' h hy
  | _ => exact h
theorem seqK_up {G : Ctx} {N : Nat} {b y : Code} {K1 k : Kont} (h : ∀ e E M, K1 e E M → seqK G N y k e E M) : ∀ e E M, seqK G N b K1 e E M → seqK G N (.seq b y) k e E M := fun e E M x => by
  cases e with
  | normal => exact WC.seq (WC.mono x h)
  | _ => exact h _ E M x
/-- one shape of what holds at a meeting point -/
def Meet {σ : Type} (I : σ → Prop) (E : σ → Env) (M : σ → List Assn) (env : Env) (L : List Assn) : Prop := ∃ s, I s ∧ SubEnv (E s) env ∧ Imp L (M s)
theorem Meet.go {σ : Type} {I : σ → Prop} {E : σ → Env} {M : σ → List Assn} {G : Ctx} {N : Nat} {y : Code} {k : Kont} (h : ∀ s, I s → WC G N y (E s) (M s) k) (env : Env) (L : List Assn) (m : Meet I E M env L) : WC G N y env L k := by
  obtain ⟨s, hi, hs, hm⟩ := m
  exact WC.sub hs (WC.imp hm (h s hi))
end Go.GL
namespace Go.GL
open Go

theorem stars_sing {B : Assn} {k : Hp} (h : B k) : stars [B] k := ⟨k, Hp.empty, fun _ => .inr rfl, by funext b; simp [Hp.join, Hp.empty], h, trivial⟩
/-- out of one assertion that is known -/
theorem Ent.of1 {A B : Assn} {L : List Assn} {R : Assn} (hu : Up A) (hA : ∀ k, A k → B k) (m : A ∈ L) (e : Ent [B] R) : Ent L R := Ent.mem m hu fun k a => e k (stars_sing (hA k a))
section
variable {G : Ctx} {N : Nat} {env : Env} {S : List Assn} {o : Oper}
/-- a condition that is known -/
theorem Quiet.bool {b b' : Bool} (q : Quiet G N env S o (.bool b')) (e : b' = b) : Quiet G N env S o (.bool b) := e ▸ q
end
end Go.GL
/- Contracts of functions of the given program, and plain laws on what they compute: parts of the proofs of laws. -/

namespace Go.Proofs.YtanjfjiaheghcaaGreatDoor
open Go Go.GL

/-! a lease's site -/
abbrev siT : TypeId := 159
def siteC (s : St) : List Value := [.int .i64 s.now, .int .i64 s.epoch, .int .i64 s.til]
def siteA (b : Nat) (s : St) : Assn := blk b (siteC s) siT
theorem up_siteA (b : Nat) (s : St) : Up (siteA b s) := up_blk _ _ _
def St.ok (s : St) : Prop := (0 ≤ s.now ∧ s.now ≤ big60) ∧ 0 ≤ s.til ∧ s.til ≤ big60 + 10
set_option maxRecDepth 10000 in
theorem lwrong_ok (at_ c : Int) (h : c ≠ 0) : Triple G 95 [.int .i64 at_, .int .i64 c] [] (IsEr (some ([(leaseT, at_)], c))) := by
  refine Triple.enter Tryz.func95 rfl (by decide) rfl Tryz.ntmps95 rfl (fun F => ?_)
  repeat (first | refine GO ?_ | refine NW fun _ => ?_)
  refine WL.step rfl (OP.call (pre := []) rfl rfl (wrap_ok leaseT at_ c h) PS rfl rfl ?_)
  intro v M hM
  obtain ⟨M', h1, h2⟩ := hM.isEr
  repeat (first | refine GO ?_ | refine NW fun _ => ?_)
  exact ret1 rfl ⟨M', h1, Imp.app h2 _⟩
set_option maxRecDepth 10000 in
theorem lat_ok (b : Nat) (s : St) (now : Int) : Triple G 96 [.pointer (some ⟨b, 0, none⟩), .int .i64 now] [siteA b s] (fun v M => v = .int .i64 (s.at_ now).now ∧ M = [siteA b (s.at_ now)]) := by
  refine Triple.enter Tryz.func96 rfl (by decide) rfl Tryz.ntmps96 rfl (fun F => ?_)
  unfold siteA siteC
  have hx : (s.at_ now).now = (if s.now < (if 1152921504606846976 < now then 1152921504606846976 else now) then (if 1152921504606846976 < now then 1152921504606846976 else now) else s.now) := by
    show max s.now (min now 1152921504606846976) = _
    split <;> split <;> omega
  repeat (first | refine GD ?_ | refine NW fun _ => ?_)
  rw [← hx]
  exact ret1 rfl ⟨_, ⟨rfl, rfl⟩, II⟩
def leEr (at_ c : Int) : Er1 := ([(leaseT, at_)], c)
set_option maxHeartbeats 2000000 in
set_option maxRecDepth 10000 in
theorem lgrant_ok (b : Nat) (s : St) (hs : s.ok) (e now : Int) : Triple G 49 [.pointer (some ⟨b, 0, none⟩), .int .i64 e, .int .i64 now] [siteA b s] (fun v M => ∃ E, IsEr ((grantS s e now).1.map (leEr e)) v E ∧ M = E ++ [siteA b (grantS s e now).2]) := by
  refine Triple.enter Tryz.func49 rfl (by decide) rfl Tryz.ntmps49 rfl (fun F => ?_)
  have hb := big60_eq
  have ha := St.at_ok hs now
  have hdef : grantS s e now = if e < 1 then (some 1, s.at_ now) else if e < s.epoch then (some 10, s.at_ now) else (none, { s.at_ now with epoch := e, til := (s.at_ now).now + 10 }) := rfl
  repeat (first | refine GD ?_ | refine NW fun _ => ?_)
  refine WL.step rfl (OP.call (pre := [siteA b s]) rfl rfl (lat_ok b s now) PS rfl rfl ?_)
  rintro _ _ ⟨rfl, rfl⟩
  have he : (s.at_ now).epoch = s.epoch := rfl
  rw [← he] at hdef
  generalize s.at_ now = t at *
  obtain ⟨tn, te, tt⟩ := t
  dsimp only at ha hdef he ⊢
  unfold siteA siteC
  dsimp only
  by_cases h1 : e < 1
  · rw [if_pos h1] at hdef
    repeat (first | refine GD ?_ | refine NW fun _ => ?_)
    refine WL.step rfl (OP.call (pre := []) rfl rfl (lwrong_ok e 1 (by decide)) PS rfl rfl ?_)
    intro v M hM
    repeat (first | refine GD ?_ | refine NW fun _ => ?_)
    exact ret1 rfl ⟨M ++ [blk b [.int .i64 tn, .int .i64 te, .int .i64 tt] siT], ⟨M, by rw [hdef]; exact hM, by rw [hdef]⟩, by rw [List.append_assoc]; exact Imp.appL II M⟩
  rw [if_neg h1] at hdef
  by_cases h2 : e < te
  · rw [if_pos h2] at hdef
    repeat (first | refine GD ?_ | refine NW fun _ => ?_)
    refine WL.step rfl (OP.call (pre := []) rfl rfl (lwrong_ok e 10 (by decide)) PS rfl rfl ?_)
    intro v M hM
    repeat (first | refine GD ?_ | refine NW fun _ => ?_)
    exact ret1 rfl ⟨M ++ [blk b [.int .i64 tn, .int .i64 te, .int .i64 tt] siT], ⟨M, by rw [hdef]; exact hM, by rw [hdef]⟩, by rw [List.append_assoc]; exact Imp.appL II M⟩
  rw [if_neg h2] at hdef
  repeat (first | refine GD ?_ | refine NW fun _ => ?_)
  exact ret1 rfl ⟨_, ⟨[], by rw [hdef]; exact ⟨rfl, rfl⟩, by rw [hdef]⟩, II⟩
set_option maxHeartbeats 2000000 in
set_option maxRecDepth 10000 in
theorem lcheck_ok (b : Nat) (s : St) (e now : Int) : Triple G 51 [.pointer (some ⟨b, 0, none⟩), .int .i64 e, .int .i64 now] [siteA b s] (fun v M => ∃ E, IsEr ((checkS s e now).map (leEr e)) v E ∧ M = E ++ [siteA b (s.at_ now)]) := by
  refine Triple.enter Tryz.func51 rfl (by decide) rfl Tryz.ntmps51 rfl (fun F => ?_)
  have hdef : checkS s e now = if (s.at_ now).epoch = 0 ∨ e ≠ (s.at_ now).epoch then some 10 else if (s.at_ now).til ≤ (s.at_ now).now then some 11 else none := rfl
  repeat (first | refine GD ?_ | refine NW fun _ => ?_)
  refine WL.step rfl (OP.call (pre := [siteA b s]) rfl rfl (lat_ok b s now) PS rfl rfl ?_)
  rintro _ _ ⟨rfl, rfl⟩
  generalize s.at_ now = t at *
  obtain ⟨tn, te, tt⟩ := t
  dsimp only at hdef ⊢
  unfold siteA siteC
  dsimp only
  by_cases h1 : te = 0
  · rw [if_pos (.inl h1)] at hdef
    repeat (first | refine GD ?_ | refine NW fun _ => ?_)
    refine WL.step rfl (OP.call (pre := []) rfl rfl (lwrong_ok e 10 (by decide)) PS rfl rfl ?_)
    intro v M hM
    repeat (first | refine GD ?_ | refine NW fun _ => ?_)
    exact ret1 rfl ⟨M ++ [blk b [.int .i64 tn, .int .i64 te, .int .i64 tt] siT], ⟨M, by rw [hdef]; exact hM, rfl⟩, by rw [List.append_assoc]; exact Imp.appL II M⟩
  by_cases h2 : e = te
  rotate_left
  · rw [if_pos (.inr h2)] at hdef
    repeat (first | refine GD ?_ | refine NW fun _ => ?_)
    refine WL.step rfl (OP.call (pre := []) rfl rfl (lwrong_ok e 10 (by decide)) PS rfl rfl ?_)
    intro v M hM
    repeat (first | refine GD ?_ | refine NW fun _ => ?_)
    exact ret1 rfl ⟨M ++ [blk b [.int .i64 tn, .int .i64 te, .int .i64 tt] siT], ⟨M, by rw [hdef]; exact hM, rfl⟩, by rw [List.append_assoc]; exact Imp.appL II M⟩
  rw [if_neg (fun h => by rcases h with h | h; exact h1 h; exact h h2)] at hdef
  by_cases h3 : tt ≤ tn
  · rw [if_pos h3] at hdef
    repeat (first | refine GD ?_ | refine NW fun _ => ?_)
    refine WL.step rfl (OP.call (pre := []) rfl rfl (lwrong_ok e 11 (by decide)) PS rfl rfl ?_)
    intro v M hM
    repeat (first | refine GD ?_ | refine NW fun _ => ?_)
    exact ret1 rfl ⟨M ++ [blk b [.int .i64 tn, .int .i64 te, .int .i64 tt] siT], ⟨M, by rw [hdef]; exact hM, rfl⟩, by rw [List.append_assoc]; exact Imp.appL II M⟩
  rw [if_neg h3] at hdef
  repeat (first | refine GD ?_ | refine NW fun _ => ?_)
  exact ret1 rfl ⟨_, ⟨[], by rw [hdef]; exact ⟨rfl, rfl⟩, rfl⟩, II⟩
set_option maxRecDepth 10000 in
theorem lepoch_ro (b : Nat) (s : St) : RO G 112 [.pointer (some ⟨b, 0, none⟩)] (siteA b s) (.tuple #[.int .i64 s.epoch, .int .i64 s.til]) := by
  refine RO.enter Tryz.func112 rfl (by decide) rfl Tryz.ntmps112 rfl (fun A hu hA => ?_) (up_siteA _ _)
  have hC : ∀ {L} {i : Nat} {x : Value}, (siteC s)[i]? = some x → A ∈ L → Ent L (cellAt b i x) := fun h m => Ent.of1 hu hA m (Ent.blk (T := siT) (c := siteC s) (List.Mem.head _) h)
  repeat (first | refine GD ?_ | refine NW fun _ => ?_)
  refine RD 10 10 (_) ?_
  refine WP 0 ?_
  refine WP 1 ?_
  refine WP 2 ?_
  refine VL 3 (.int .i64 s.epoch) rfl rfl rfl rfl (.inl ⟨rfl, hC (i := 1) rfl MM⟩) ?_
  refine WP 4 ?_
  refine WP 5 ?_
  refine WP 6 ?_
  refine VL 7 (.int .i64 s.til) rfl rfl rfl rfl (.inl ⟨rfl, hC (i := 2) rfl MM⟩) ?_
  refine WP 8 ?_
  refine WP 9 ?_
  refine DN ?_
  repeat (first | refine GD ?_ | refine NW fun _ => ?_)
  exact ret2 rfl rfl ⟨rfl, MM⟩
end Go.Proofs.YtanjfjiaheghcaaGreatDoor
/- Contracts of functions of the given program, and plain laws on what they compute: parts of the proofs of laws. -/

namespace Go.Proofs.YtanjfjiaheghcaaGreatDoor
open Go Go.GL

/-! a gate -/
abbrev gtT : TypeId := 176
abbrev caT : TypeId := 53
def encCa (c : Call) : List Value := [.int .i64 c.1, .int .i64 c.2.1, .string c.2.2]
theorem encCa_len (c : Call) : (encCa c).length = 3 := rfl
def gateC (g : Gt) (x : Option Addr × Nat) : List Value := [.int .i64 g.round, .int .i64 g.left, .int .i64 g.latest, .slice x.1 g.wait.length x.2]
def gateL (b : Nat) (g : Gt) (x : Option Addr × Nat) : List Assn := [blk b (gateC g x) gtT, ownS x.1 g.wait.length x.2 caT 3 (g.wait.flatMap encCa)]
def gateA (b : Nat) (g : Gt) : Assn := exA (gateL b g)
theorem up_gateA (b : Nat) (g : Gt) : Up (gateA b g) := up_exA _
theorem gateFold (b : Nat) (g : Gt) (x : Option Addr × Nat) {N : List Assn} : Imp (blk b (gateC g x) gtT :: ownS x.1 g.wait.length x.2 caT 3 (g.wait.flatMap encCa) :: N) (gateA b g :: N) := Imp.fold (Ls := gateL b g) x
theorem gate_at {b : Nat} {g : Gt} {L : List Assn} (m : gateA b g ∈ L) {i : Nat} {v : Value} (hv : ∀ x, (gateC g x)[i]? = some v) : Ent L (cellAt b i v) :=
  Ent.mem m (up_gateA _ _) fun h ⟨x, s⟩ => (Ent.blk (T := gtT) (c := gateC g x) (List.Mem.head _) (hv x)) h s
def CallsA (l : List Call) (v : Value) (E : List Assn) : Prop := ∃ a cap, v = .slice a l.length cap ∧ E = [ownS a l.length cap caT 3 (l.flatMap encCa)]
def gtEr (at_ c : Int) : Er1 := ([(gateT, at_)], c)
set_option maxRecDepth 10000 in
theorem gwrong_ok (at_ c : Int) (h : c ≠ 0) : Triple G 97 [.int .i64 at_, .int .i64 c] [] (IsEr (some (gtEr at_ c))) := by
  refine Triple.enter Tryz.func97 rfl (by decide) rfl Tryz.ntmps97 rfl (fun F => ?_)
  repeat (first | refine GO ?_ | refine NW fun _ => ?_)
  refine WL.step rfl (OP.call (pre := []) rfl rfl (wrap_ok gateT at_ c h) PS rfl rfl ?_)
  intro v M hM
  obtain ⟨M', h1, h2⟩ := hM.isEr
  repeat (first | refine GO ?_ | refine NW fun _ => ?_)
  exact ret1 rfl ⟨M', h1, Imp.app h2 _⟩
set_option maxRecDepth 10000 in
theorem gfrozen_ro (b : Nat) (g : Gt) : RO G 68 [.pointer (some ⟨b, 0, none⟩)] (gateA b g) (.int .i64 g.round) := by
  refine RO.enter Tryz.func68 rfl (by decide) rfl Tryz.ntmps68 rfl (fun A hu hA => ?_) (up_gateA _ _)
  have hG : ∀ {L} {i : Nat} {v : Value}, A ∈ L → (∀ x, (gateC g x)[i]? = some v) → Ent L (cellAt b i v) := fun m h => Ent.of1 hu hA m (gate_at (List.Mem.head _) h)
  repeat (first | refine GD ?_ | refine NW fun _ => ?_)
  refine WL.step rfl (OP.load1 (v := .int .i64 g.round) rfl rfl rfl rfl (hG MM (fun _ => rfl)) rfl rfl ?_)
  repeat (first | refine GD ?_ | refine NW fun _ => ?_)
  exact ret1 rfl ⟨rfl, MM⟩
set_option maxRecDepth 10000 in
theorem gwaiting_ro (b : Nat) (g : Gt) : RO G 84 [.pointer (some ⟨b, 0, none⟩)] (gateA b g) (.int .i64 g.wait.length) := by
  refine RO.enterEx Tryz.func84 rfl (by decide) rfl Tryz.ntmps84 rfl (fun x A hu hA => ?_)
  have hC : ∀ {L} {i : Nat} {v : Value}, (gateC g x)[i]? = some v → A ∈ L → Ent L (cellAt b i v) := fun h m => Ent.of hu hA m (Ent.blk (T := gtT) (c := gateC g x) (List.Mem.head _) h)
  repeat (first | refine GD ?_ | refine NW fun _ => ?_)
  refine WL.step rfl (OP.load1 (v := .slice x.1 g.wait.length x.2) rfl rfl rfl rfl (hC rfl MM) rfl rfl ?_)
  repeat (first | refine GD ?_ | refine NW fun _ => ?_)
  exact ret1 rfl ⟨rfl, MM⟩
def FreezeG (b : Nat) (g : Gt) (round ticks : Int) (v : Value) (M : List Assn) : Prop := match freezeG g round ticks with
  | .ok g' => v = .nilIface ∧ M = [gateA b g']
  | .error c => ∃ E, IsEr (some (gtEr round c)) v E ∧ M = E ++ [gateA b g]
set_option maxHeartbeats 2000000 in
set_option maxRecDepth 10000 in
theorem gfreeze_ok (b : Nat) (g : Gt) (round ticks : Int) : Triple G 60 [.pointer (some ⟨b, 0, none⟩), .int .i64 round, .int .i64 ticks] [gateA b g] (FreezeG b g round ticks) := by
  refine Triple.enter Tryz.func60 rfl (by decide) rfl Tryz.ntmps60 rfl (fun F => ?_)
  refine WC.open (M := [F]) (Ls := gateL b g) II (fun x => ?_)
  have hdef : freezeG g round ticks = if round < 1 ∨ ticks < 1 then .error 1
    else if round ≠ g.round ∧ round ≤ g.latest then .error 10
    else .ok { g with round := round, latest := round, left := ticks } := rfl
  have hback := fun (g' : Gt) (N : List Assn) => gateFold b g' x (N := N)
  unfold gateL
  unfold gateC at *
  dsimp only [List.cons_append, List.nil_append]
  unfold FreezeG
  by_cases h1 : round < 1
  · rw [if_pos (.inl h1)] at hdef
    repeat (first | refine GD ?_ | refine NW fun _ => ?_)
    refine WL.step rfl (OP.call (pre := []) rfl rfl (gwrong_ok round 1 (by decide)) PS rfl rfl ?_)
    intro v M hM
    repeat (first | refine GD ?_ | refine NW fun _ => ?_)
    exact ret1 rfl ⟨M ++ [gateA b g], by rw [hdef]; exact ⟨M, hM, rfl⟩, by rw [List.append_assoc]; exact Imp.appL (Imp.trans II (hback g [F])) M⟩
  by_cases h2 : ticks < 1
  · rw [if_pos (.inr h2)] at hdef
    repeat (first | refine GD ?_ | refine NW fun _ => ?_)
    refine WL.step rfl (OP.call (pre := []) rfl rfl (gwrong_ok round 1 (by decide)) PS rfl rfl ?_)
    intro v M hM
    repeat (first | refine GD ?_ | refine NW fun _ => ?_)
    exact ret1 rfl ⟨M ++ [gateA b g], by rw [hdef]; exact ⟨M, hM, rfl⟩, by rw [List.append_assoc]; exact Imp.appL (Imp.trans II (hback g [F])) M⟩
  rw [if_neg (fun h => by rcases h with h | h; exact h1 h; exact h2 h)] at hdef
  by_cases h3 : round = g.round
  · rw [if_neg (fun h => h.1 h3)] at hdef
    repeat (first | refine GD ?_ | refine NW fun _ => ?_)
    refine ret1 rfl ⟨[gateA b { g with round := round, latest := round, left := ticks }], by rw [hdef]; exact ⟨rfl, rfl⟩, ?_⟩
    exact Imp.trans II (hback { g with round := round, latest := round, left := ticks } [F])
  by_cases h4 : round ≤ g.latest
  · rw [if_pos ⟨h3, h4⟩] at hdef
    repeat (first | refine GD ?_ | refine NW fun _ => ?_)
    refine WL.step rfl (OP.call (pre := []) rfl rfl (gwrong_ok round 10 (by decide)) PS rfl rfl ?_)
    intro v M hM
    repeat (first | refine GD ?_ | refine NW fun _ => ?_)
    exact ret1 rfl ⟨M ++ [gateA b g], by rw [hdef]; exact ⟨M, hM, rfl⟩, by rw [List.append_assoc]; exact Imp.appL (Imp.trans II (hback g [F])) M⟩
  rw [if_neg (fun h => h4 h.2)] at hdef
  repeat (first | refine GD ?_ | refine NW fun _ => ?_)
  refine ret1 rfl ⟨[gateA b { g with round := round, latest := round, left := ticks }], by rw [hdef]; exact ⟨rfl, rfl⟩, ?_⟩
  exact Imp.trans II (hback { g with round := round, latest := round, left := ticks } [F])
def EnterG (b : Nat) (g : Gt) (c : Call) (v : Value) (M : List Assn) : Prop :=
  if g.round = 0 then v = .tuple #[.bool true, .nilIface] ∧ M = [gateA b g]
  else if 4 ≤ g.wait.length then ∃ e E, IsEr (some (gtEr g.round 7)) e E ∧ v = .tuple #[.bool false, e] ∧ M = E ++ [gateA b g]
  else v = .tuple #[.bool false, .nilIface] ∧ M = [gateA b { g with wait := g.wait ++ [c] }]
set_option maxHeartbeats 2000000 in
set_option maxRecDepth 10000 in
theorem genter_ok (b : Nat) (g : Gt) (c : Call) : Triple G 53 [.pointer (some ⟨b, 0, none⟩), .agg (encCa c).toArray] [gateA b g] (EnterG b g c) := by
  refine Triple.enter Tryz.func53 rfl (by decide) rfl Tryz.ntmps53 rfl (fun F => ?_)
  refine WC.open (M := [F]) (Ls := gateL b g) II (fun x => ?_)
  have hback := fun (g' : Gt) (x : Option Addr × Nat) (N : List Assn) => gateFold b g' x (N := N)
  obtain ⟨id, block, data⟩ := c
  rw [show encCa (id, block, data) = [.int .i64 id, .int .i64 block, .string data] from rfl]
  unfold gateL
  unfold gateC at *
  dsimp only [List.cons_append, List.nil_append]
  by_cases h0 : g.round = 0
  · repeat (first | refine GD ?_ | refine NW fun _ => ?_)
    exact ret2 rfl rfl ⟨[gateA b g], by unfold EnterG; rw [if_pos h0]; exact ⟨rfl, rfl⟩, Imp.trans II (hback g x [F])⟩
  by_cases h4 : 4 ≤ g.wait.length
  · repeat (first | refine GD ?_ | refine NW fun _ => ?_)
    refine WL.step rfl (OP.call (pre := []) rfl rfl (gwrong_ok g.round 7 (by decide)) PS rfl rfl ?_)
    intro v M hM
    repeat (first | refine GD ?_ | refine NW fun _ => ?_)
    exact ret2 rfl rfl ⟨M ++ [gateA b g], by unfold EnterG; rw [if_neg h0, if_pos h4]; exact ⟨v, M, hM, rfl, rfl⟩, by rw [List.append_assoc]; exact Imp.appL (Imp.trans II (hback g x [F])) M⟩
  have hn4 : g.wait.length < 4 := by omega
  repeat (first | refine GD ?_ | refine NW fun _ => ?_)
  refine RD 7 11 (_) ?_
  refine WP 0 ?_
  refine WP 1 ?_
  refine WP 2 ?_
  refine WP 3 ?_
  refine VV 4 ?_
  refine VL 5 (.agg (encCa (id, block, data)).toArray) rfl rfl rfl rfl (.inr ⟨rfl, encCa (id, block, data), rfl, rfl, Ent.whole MM⟩) ?_
  refine WH.only 6 rfl rfl (by kernel_rfl) rfl (OP.sliceLit (c := encCa (id, block, data)) rfl rfl rfl rfl rfl rfl rfl rfl (fun b2 => ⟨fun _ => II, ?_⟩))
  refine WH.only 7 rfl rfl (by kernel_rfl) rfl (OP.append rfl rfl rfl rfl rfl rfl rfl rfl rfl P1 (Ent.own MM) rfl (by omega) (by omega) rfl rfl (fun a' cap' => ⟨(fun h => nomatch h), ?_⟩))
  refine WP 8 ?_
  refine WP 9 ?_
  refine WH.only 10 rfl rfl (by kernel_rfl) rfl (OP.store rfl rfl rfl rfl rfl rfl rfl UP rfl ⟨(fun h => nomatch h), ?_⟩)
  refine DN ?_
  repeat (first | refine GD ?_ | refine NW fun _ => ?_)
  refine ret2 rfl rfl ⟨[gateA b { g with wait := g.wait ++ [(id, block, data)] }], by unfold EnterG; rw [if_neg h0, if_neg h4]; exact ⟨rfl, rfl⟩, ?_⟩
  refine Imp.trans ?_ (hback { g with wait := g.wait ++ [(id, block, data)] } (a', cap') [F])
  dsimp only
  rw [List.length_append, List.flatMap_append, List.flatMap_cons, List.flatMap_nil, List.append_nil]
  exact II
set_option maxHeartbeats 2000000 in
set_option maxRecDepth 10000 in
theorem gopens_thaw (b : Nat) (g : Gt) : Triple G 111 [.pointer (some ⟨b, 0, none⟩), .int .i64 2] [gateA b g] (fun v M => ∃ E, CallsA g.wait v E ∧ M = E ++ [gateA b g.opened]) := by
  refine Triple.enter Tryz.func111 rfl (by decide) rfl Tryz.ntmps111 rfl (fun F => ?_)
  refine WC.open (M := [F]) (Ls := gateL b g) II (fun x => ?_)
  have hback := fun (g' : Gt) (x : Option Addr × Nat) (N : List Assn) => gateFold b g' x (N := N)
  unfold gateL
  unfold gateC at *
  dsimp only [List.cons_append, List.nil_append]
  repeat (first | refine GD ?_ | refine NW fun _ => ?_)
  refine ret1 rfl ⟨[ownS x.1 g.wait.length x.2 caT 3 (g.wait.flatMap encCa)] ++ [gateA b g.opened], ⟨_, ⟨_, _, rfl, rfl⟩, rfl⟩, ?_⟩
  refine Imp.trans (Imp.nilS caT 3) (Imp.trans ?_ (Imp.trans (hback g.opened (none, 0) [ownS x.1 g.wait.length x.2 caT 3 (g.wait.flatMap encCa), F]) II))
  exact II
set_option maxHeartbeats 2000000 in
set_option maxRecDepth 10000 in
theorem gopens_tick (b : Nat) (g : Gt) (hl : 0 ≤ g.left ∧ g.left ≤ 6) : Triple G 111 [.pointer (some ⟨b, 0, none⟩), .int .i64 0] [gateA b g] (fun v M => ∃ E, CallsA (if 0 < g.left - 1 then [] else g.wait) v E ∧ M = E ++ [gateA b (if 0 < g.left - 1 then { g with left := g.left - 1 } else g.opened)]) := by
  refine Triple.enter Tryz.func111 rfl (by decide) rfl Tryz.ntmps111 rfl (fun F => ?_)
  refine WC.open (M := [F]) (Ls := gateL b g) II (fun x => ?_)
  have hback := fun (g' : Gt) (x : Option Addr × Nat) (N : List Assn) => gateFold b g' x (N := N)
  unfold gateL
  unfold gateC at *
  dsimp only [List.cons_append, List.nil_append]
  by_cases h : 0 < g.left - 1
  · rw [if_pos h, if_pos h]
    repeat (first | refine GD ?_ | refine NW fun _ => ?_)
    refine ret1 rfl ⟨[ownS none 0 0 caT 3 (([] : List Call).flatMap encCa)] ++ [gateA b { g with left := g.left - 1 }], ⟨_, ⟨_, _, rfl, rfl⟩, rfl⟩, ?_⟩
    refine Imp.trans (Imp.nilS caT 3) (Imp.trans ?_ (Imp.trans (hback { g with left := g.left - 1 } x [ownS none 0 0 caT 3 (([] : List Call).flatMap encCa), F]) II))
    exact II
  · rw [if_neg h, if_neg h]
    repeat (first | refine GD ?_ | refine NW fun _ => ?_)
    refine ret1 rfl ⟨[ownS x.1 g.wait.length x.2 caT 3 (g.wait.flatMap encCa)] ++ [gateA b g.opened], ⟨_, ⟨_, _, rfl, rfl⟩, rfl⟩, ?_⟩
    refine Imp.trans (Imp.nilS caT 3) (Imp.trans ?_ (Imp.trans (hback g.opened (none, 0) [ownS x.1 g.wait.length x.2 caT 3 (g.wait.flatMap encCa), F]) II))
    exact II
def ThawG (b : Nat) (g : Gt) (round : Int) (v : Value) (M : List Assn) : Prop := match thawG g round with
  | .ok (l, g') => ∃ x E, CallsA l x E ∧ v = .tuple #[x, .nilIface] ∧ M = E ++ [gateA b g']
  | .error c => ∃ e E, IsEr (some (gtEr round c)) e E ∧ v = .tuple #[.slice none 0 0, e] ∧ M = E ++ [gateA b g]
set_option maxHeartbeats 2000000 in
set_option maxRecDepth 10000 in
theorem gthaw_ok (b : Nat) (g : Gt) (round : Int) : Triple G 72 [.pointer (some ⟨b, 0, none⟩), .int .i64 round] [gateA b g] (ThawG b g round) := by
  refine Triple.enter Tryz.func72 rfl (by decide) rfl Tryz.ntmps72 rfl (fun F => ?_)
  have hdef : thawG g round = if g.round = 0 ∨ g.round ≠ round then .error 9 else .ok (g.wait, g.opened) := rfl
  have hG : ∀ {L} {i : Nat} {v : Value}, gateA b g ∈ L → (∀ x, (gateC g x)[i]? = some v) → Ent L (cellAt b i v) := fun m h => gate_at m h
  have hop := gopens_thaw b g
  by_cases h0 : g.round = 0
  · rw [if_pos (.inl h0)] at hdef
    repeat (first | refine GD ?_ | refine NW fun _ => ?_)
    refine WL.step rfl (OP.load1 (v := .int .i64 g.round) rfl rfl rfl rfl (hG MM (fun _ => rfl)) rfl rfl ?_)
    repeat (first | refine GD ?_ | refine NW fun _ => ?_)
    refine WL.step rfl (OP.call (pre := []) rfl rfl (gwrong_ok round 9 (by decide)) PS rfl rfl ?_)
    intro v M hM
    repeat (first | refine GD ?_ | refine NW fun _ => ?_)
    exact ret2 rfl rfl ⟨M ++ [gateA b g], by unfold ThawG; rw [hdef]; exact ⟨v, M, hM, rfl, rfl⟩, by rw [List.append_assoc]; exact Imp.appL II M⟩
  by_cases h1 : g.round = round
  rotate_left
  · rw [if_pos (.inr h1)] at hdef
    repeat (first | refine GD ?_ | refine NW fun _ => ?_)
    refine WL.step rfl (OP.load1 (v := .int .i64 g.round) rfl rfl rfl rfl (hG MM (fun _ => rfl)) rfl rfl ?_)
    repeat (first | refine GD ?_ | refine NW fun _ => ?_)
    refine WL.guardT rfl rfl rfl rfl (OP.load1 (v := .int .i64 g.round) rfl rfl rfl rfl (hG MM (fun _ => rfl)) rfl rfl ?_)
    repeat (first | refine GD ?_ | refine NW fun _ => ?_)
    refine WL.step rfl (OP.call (pre := []) rfl rfl (gwrong_ok round 9 (by decide)) PS rfl rfl ?_)
    intro v M hM
    repeat (first | refine GD ?_ | refine NW fun _ => ?_)
    exact ret2 rfl rfl ⟨M ++ [gateA b g], by unfold ThawG; rw [hdef]; exact ⟨v, M, hM, rfl, rfl⟩, by rw [List.append_assoc]; exact Imp.appL II M⟩
  rw [if_neg (fun h => by rcases h with h | h; exact h0 h; exact h h1)] at hdef
  repeat (first | refine GD ?_ | refine NW fun _ => ?_)
  refine WL.step rfl (OP.load1 (v := .int .i64 g.round) rfl rfl rfl rfl (hG MM (fun _ => rfl)) rfl rfl ?_)
  repeat (first | refine GD ?_ | refine NW fun _ => ?_)
  refine WL.guardT rfl rfl rfl rfl (OP.load1 (v := .int .i64 g.round) rfl rfl rfl rfl (hG MM (fun _ => rfl)) rfl rfl ?_)
  repeat (first | refine GD ?_ | refine NW fun _ => ?_)
  refine WL.step rfl (OP.call (pre := [gateA b g]) rfl rfl hop PS rfl rfl ?_)
  rintro _ _ ⟨E, ⟨a, cap, rfl, rfl⟩, rfl⟩
  repeat (first | refine GD ?_ | refine NW fun _ => ?_)
  exact ret2 rfl rfl ⟨[ownS a g.wait.length cap caT 3 (g.wait.flatMap encCa)] ++ [gateA b g.opened], by unfold ThawG; rw [hdef]; exact ⟨_, _, ⟨a, cap, rfl, rfl⟩, rfl, rfl⟩, II⟩
set_option maxHeartbeats 2000000 in
set_option maxRecDepth 10000 in
theorem gtick_ok (b : Nat) (g : Gt) (hl : 0 ≤ g.left ∧ g.left ≤ 6) : Triple G 76 [.pointer (some ⟨b, 0, none⟩)] [gateA b g] (fun v M => ∃ E, CallsA (tickG g).1 v E ∧ M = E ++ [gateA b (tickG g).2]) := by
  refine Triple.enter Tryz.func76 rfl (by decide) rfl Tryz.ntmps76 rfl (fun F => ?_)
  have hdef : tickG g = if g.round = 0 then ([], g) else if 0 < g.left - 1 then ([], { g with left := g.left - 1 }) else (g.wait, g.opened) := rfl
  have hop := gopens_tick b g hl
  repeat (first | refine GD ?_ | refine NW fun _ => ?_)
  refine WL.step rfl (OP.callRO rfl rfl (gfrozen_ro b g) (Ent.at (up_gateA _ _) MM) rfl rfl ?_)
  by_cases h0 : g.round = 0
  · rw [hdef, if_pos h0]
    repeat (first | refine GD ?_ | refine NW fun _ => ?_)
    refine ret1 rfl ⟨[ownS none 0 0 caT 3 (([] : List Call).flatMap encCa)] ++ [gateA b g], ⟨_, ⟨_, _, rfl, rfl⟩, rfl⟩, ?_⟩
    exact Imp.trans (Imp.nilS caT 3) II
  have hd2 : (tickG g).1 = (if 0 < g.left - 1 then [] else g.wait) ∧ (tickG g).2 = (if 0 < g.left - 1 then { g with left := g.left - 1 } else g.opened) := by
    rw [hdef, if_neg h0]
    split <;> exact ⟨rfl, rfl⟩
  rw [hd2.1, hd2.2]
  generalize (if 0 < g.left - 1 then [] else g.wait) = lw at *
  generalize (if 0 < g.left - 1 then { g with left := g.left - 1 } else g.opened) = g' at *
  repeat (first | refine GD ?_ | refine NW fun _ => ?_)
  refine WL.step rfl (OP.call (pre := [gateA b g]) rfl rfl hop PS rfl rfl ?_)
  rintro _ _ ⟨E, ⟨a, cap, rfl, rfl⟩, rfl⟩
  repeat (first | refine GD ?_ | refine NW fun _ => ?_)
  exact ret1 rfl ⟨[ownS a lw.length cap caT 3 (lw.flatMap encCa)] ++ [gateA b g'], ⟨_, ⟨a, cap, rfl, rfl⟩, rfl⟩, II⟩
end Go.Proofs.YtanjfjiaheghcaaGreatDoor
/- Contracts of functions of the given program, and plain laws on what they compute: parts of the proofs of laws. -/

namespace Go.Proofs.YtanjfjiaheghcaaGreatDoor
open Go Go.GL

set_option maxRecDepth 10000 in
theorem vrecords_rt (v p : Nat) (V : Vol) (hV : V.rng) : RT G 78 [.pointer (some ⟨v, 0, none⟩)] (vol v p V) (RecsPost V.J.held) := by
  refine RT.enterEx Tryz.func78 rfl (by decide) rfl Tryz.ntmps78 rfl (fun j A hu hA => ?_)
  have hC : ∀ {L} {i : Nat} {x : Value}, (volC p j V.J.ring V.laid V.blks)[i]? = some x → A ∈ L → Ent L (cellAt v i x) := fun h m => Ent.of hu hA m (Ent.volAt (List.Mem.head _) h)
  have hE : ∀ {L}, A ∈ L → Ent L (jrn j p V.J) := fun m => Ent.of hu hA m (Ent.at (up_jrn j p V.J) (List.Mem.tail _ (List.Mem.head _)))
  repeat (first | refine GD ?_ | refine NW fun _ => ?_)
  refine WL.step rfl (OP.load1 (v := .pointer (some ⟨j, 0, none⟩)) rfl rfl rfl rfl (hC rfl MM) rfl rfl ?_)
  repeat (first | refine GD ?_ | refine NW fun _ => ?_)
  refine WL.step rfl (OP.callRT rfl rfl (jrecords_rt j p V.J hV.J) (hE MM) rfl rfl ?_)
  rintro _ _ ⟨ar, capr, rfl, rfl⟩
  repeat (first | refine GD ?_ | refine NW fun _ => ?_)
  exact ret1 rfl ⟨_, ⟨ar, capr, rfl, rfl⟩, Imp.refl _⟩
end Go.Proofs.YtanjfjiaheghcaaGreatDoor
/- Contracts of functions of the given program, and plain laws on what they compute: parts of the proofs of laws. -/

namespace Go.Proofs.YtanjfjiaheghcaaGreatDoor
open Go Go.GL

/-! power ends -/
theorem bit_u64 {t : Int} (h : 0 ≤ t ∧ t ≤ 18446744073709551615) {i : Nat} (hi : i < 64) : (bitsV .and .u64 (shrV .u64 t (i : Int)) 1 = 1) ↔ t.toNat.testBit i = true := by
  obtain ⟨n, rfl⟩ : ∃ n : Nat, t = n := ⟨t.toNat, by omega⟩
  have e : shrV .u64 (n : Int) (i : Int) = ((n / 2 ^ i : Nat) : Int) := by
    unfold shrV
    rw [Int.toNat_natCast, Nat.min_eq_left (by show i ≤ 64; omega), Int.fdiv_eq_ediv_of_nonneg _ (by exact Int.pow_nonneg (by decide)), Int.natCast_ediv, Int.natCast_pow]; rfl
  have hlt : n / 2 ^ i < 2 ^ 64 := Nat.lt_of_le_of_lt (Nat.div_le_self _ _) (by omega)
  rw [e, Int.toNat_natCast, Nat.testBit_eq_decide_div_mod_eq, decide_eq_true_eq]
  generalize n / 2 ^ i = m at *
  have h1 : (BitVec.ofInt 64 (m : Int)).toNat = m := by rw [BitVec.toNat_ofInt]; omega
  have h2 : (BitVec.ofInt 64 (m : Int) &&& BitVec.ofInt 64 1).toNat = m % 2 := by
    rw [BitVec.toNat_and, h1]; exact Nat.and_one_is_mod _
  show IntKind.u64.wrap ((BitVec.ofInt 64 (m : Int) &&& BitVec.ofInt 64 1).toNat : Int) = 1 ↔ _
  rw [h2, wrap_fit (k := .u64) (by unfold Fit; omega)]
  omega
set_option maxRecDepth 10000 in
theorem dcrash1_ro (c : Nat) (keep : Int) (hk : 0 ≤ keep ∧ keep < 18446744073709551616) (j : Nat) : RO G 122 [.int .i64 j, .pointer (some ⟨c, 0, none⟩)] (cellAt c 0 (.int .u64 keep)) (.bool (keeps keep j)) := by
  refine RO.enter Tryz.func122 rfl (by decide) rfl Tryz.ntmps122 rfl (fun A hu hA => ?_) (up_cellAt _ _ _)
  repeat (first | refine GO ?_ | refine NW fun _ => ?_)
  refine WL.step rfl (OP.load1 (v := .int .u64 keep) rfl rfl rfl rfl (Ent.mem MM hu hA) rfl rfl ?_)
  repeat (first | refine GO ?_ | refine NW fun _ => ?_)
  refine ret1 rfl ⟨?_, MM⟩
  have e : (decide (bitsV BinOp.and IntKind.u64 (shrV IntKind.u64 keep ((j : Int) % 64)) 1 = 1)) = keeps keep j := by
    have hb := bit_u64 (t := keep) (by omega) (show j % 64 < 64 by omega)
    rw [show ((j : Int) % 64) = ((j % 64 : Nat) : Int) by omega]
    unfold keeps
    cases hx : keep.toNat.testBit (j % 64)
    · exact decide_eq_false (fun h => by rw [hb.1 h] at hx; cases hx)
    · exact decide_eq_true (hb.2 hx)
  rw [e]
theorem Imp.blkC {b : Nat} {v : Value} {T : TypeId} {L : List Assn} : Imp (blk b [v] T :: L) (cellAt b 0 v :: L) :=
  fun _ s => stars_head_mono (fun h x => (Ent.blk (L := [blk b [v] T]) (List.Mem.head _) rfl) h ⟨h, Hp.empty, fun _ => .inr rfl, by funext b; simp [Hp.join, Hp.empty], x, trivial⟩) s
/-- a power's end: what is loose is kept, or not, as the number's bits tell -/
theorem dcrash_ok (p : Nat) (D : Dsk) (keep : Int) (hk : 0 ≤ keep ∧ keep < 18446744073709551616) (hD : D.ok) (hw : D.W.length < 1000000) : Triple G 82 [.pointer (some ⟨p, 0, none⟩), .int .u64 keep] [dsk p D] (fun v M => v = .tuple #[] ∧ M = [dsk p (D.crash keep)]) := by
  refine Triple.enter Tryz.func82 rfl (by decide) rfl Tryz.ntmps82 rfl (fun F => ?_)
  repeat (first | refine GO ?_ | refine NW fun _ => ?_)
  rename_i c
  refine WL.step rfl (OP.makeF rfl rfl rfl rfl ?_)
  repeat (first | refine GO ?_ | refine NW fun _ => ?_)
  refine WL.step rfl (OP.call (pre := [dsk p D, cellAt c 0 (.int .u64 keep)]) rfl rfl (dsettle_ok p D hD hw 122 [.pointer (some ⟨c, 0, none⟩)] (cellAt c 0 (.int .u64 keep)) (up_cellAt _ _ _) (keeps keep) (fun j _ => dcrash1_ro c keep hk j)) (Imp.blkC.trans PS) rfl rfl ?_)
  rintro _ _ ⟨rfl, rfl⟩
  repeat (first | refine GO ?_ | refine NW fun _ => ?_)
  exact ret0n ⟨_, ⟨rfl, rfl⟩, II⟩
end Go.Proofs.YtanjfjiaheghcaaGreatDoor
/- Contracts of functions of the given program, and plain laws on what they compute: parts of the proofs of laws. -/

namespace Go.Proofs.YtanjfjiaheghcaaGreatDoor
open Go Go.GL

/-! a primary in memory -/
abbrev pnT : TypeId := 104
abbrev ptr (x : Nat) : Value := .pointer (some ⟨x, 0, none⟩)
def pndC (q : Nat) (ring : Int) (v g s : Value) (marked floor acked : Int) : List Value := [.pointer (some ⟨q, 0, none⟩), .int .i64 ring, v, g, s, .int .i64 marked, .int .i64 floor, .int .i64 acked]
def priL (p q : Nat) (P : Pri) (x : Nat × Nat × Nat) : List Assn := [blk p (pndC q P.V.J.ring (.pointer (some ⟨x.1, 0, none⟩)) (.pointer (some ⟨x.2.1, 0, none⟩)) (.pointer (some ⟨x.2.2, 0, none⟩)) P.marked P.floor P.acked) pnT, vol x.1 q P.V, gateA x.2.1 P.G, siteA x.2.2 P.S]
def priA (p q : Nat) (P : Pri) : Assn := exA (priL p q P)
theorem up_priA (p q : Nat) (P : Pri) : Up (priA p q P) := up_exA _
theorem priFold (p q : Nat) (P : Pri) (v g s : Nat) {N : List Assn} : Imp (blk p (pndC q P.V.J.ring (.pointer (some ⟨v, 0, none⟩)) (.pointer (some ⟨g, 0, none⟩)) (.pointer (some ⟨s, 0, none⟩)) P.marked P.floor P.acked) pnT :: vol v q P.V :: gateA g P.G :: siteA s P.S :: N) (priA p q P :: N) := Imp.fold (Ls := priL p q P) (v, g, s)
theorem pwrong_nil (at_ : Int) : RO G 43 [.int .i64 at_, .nilIface] (fun _ => True) .nilIface := by
  refine RO.enter Tryz.func43 rfl (by decide) rfl Tryz.ntmps43 rfl (fun A hu hA => ?_) (fun _ _ _ h => h)
  repeat (first | refine GO ?_ | refine NW fun _ => ?_)
  refine WL.step rfl (OP.callRO rfl rfl (wrap_nil primT at_) (fun _ _ => trivial) rfl rfl ?_)
  repeat (first | refine GO ?_ | refine NW fun _ => ?_)
  exact ret1 rfl ⟨rfl, MM⟩
set_option maxRecDepth 10000 in
theorem pwrong_ok (at_ : Int) (ch : Chain) (c : Int) (h : ¬ (ch = [] ∧ c = 0)) : Triple G 43 [.int .i64 at_, valOf ch c] [chainR ch c] (IsEr (some ((primT, at_) :: ch.map Prod.snd, c))) := by
  refine Triple.enter Tryz.func43 rfl (by decide) rfl Tryz.ntmps43 rfl (fun F => ?_)
  repeat (first | refine GO ?_ | refine NW fun _ => ?_)
  refine WL.step rfl (OP.call (pre := [chainR ch c]) rfl rfl (wrapC_ok primT at_ ch c h) PS rfl rfl ?_)
  intro v M hM
  repeat (first | refine GO ?_ | refine NW fun _ => ?_)
  exact ret1 rfl ⟨M, hM, Imp.refl _⟩
theorem pwrong_any (at_ : Int) (o : Er) (e : Value) (E : List Assn) (h : IsEr o e E) (hc : ∀ l c, o = some (l, c) → c ≠ 0) : Triple G 43 [.int .i64 at_, e] E (IsEr (wrapE primT at_ o)) := by
  cases o with
  | none =>
    obtain ⟨rfl, rfl⟩ := h
    exact ((pwrong_nil at_).triple (M := []) (fun _ _ => trivial)).mono fun v M ⟨h1, h2⟩ => ⟨[], ⟨h1, rfl⟩, by rw [h2]; exact Imp.refl _⟩
  | some lc =>
    obtain ⟨l, c⟩ := lc
    obtain ⟨ch, rfl, rfl, rfl⟩ := h
    exact pwrong_ok at_ ch c (fun x => hc _ _ rfl x.2)
set_option maxRecDepth 10000 in
theorem pdown_ro (p q : Nat) (ring : Int) (v : Nat) (g s : Value) (marked floor acked : Int) : RO G 48 [.pointer (some ⟨p, 0, none⟩)] (blk p (pndC q ring (.pointer (some ⟨v, 0, none⟩)) g s marked floor acked) pnT) (.bool false) := by
  refine RO.enter Tryz.func48 rfl (by decide) rfl Tryz.ntmps48 rfl (fun A hu hA => ?_) (up_blk _ _ _)
  have hC : ∀ {L} {i : Nat} {x : Value}, (pndC q ring (.pointer (some ⟨v, 0, none⟩)) g s marked floor acked)[i]? = some x → A ∈ L → Ent L (cellAt p i x) := fun h m => Ent.of1 hu hA m (Ent.blk (T := pnT) (List.Mem.head _) h)
  repeat (first | refine GO ?_ | refine NW fun _ => ?_)
  refine WL.guardT rfl rfl rfl rfl (OP.load1 (v := .pointer (some ⟨v, 0, none⟩)) rfl rfl rfl rfl (hC (i := 2) rfl MM) rfl rfl ?_)
  repeat (first | refine GO ?_ | refine NW fun _ => ?_)
  exact ret1 rfl ⟨rfl, MM⟩
set_option maxHeartbeats 2000000 in
set_option maxRecDepth 10000 in
theorem pgrant_ok (p q : Nat) (P : Pri) (e now : Int) (hs : P.S.ok) : Triple G 12 [.pointer (some ⟨p, 0, none⟩), .int .i64 e, .int .i64 now] [priA p q P] (fun v M => ∃ E, IsEr (grantP P e now).1 v E ∧ M = E ++ [priA p q (grantP P e now).2]) := by
  refine Triple.enter Tryz.func12 rfl (by decide) rfl Tryz.ntmps12 rfl (fun F => ?_)
  refine WC.open (M := [F]) (Ls := priL p q P) II (fun x => ?_)
  obtain ⟨v, g, s⟩ := x
  unfold priL
  dsimp only [List.cons_append, List.nil_append]
  have hdn := pdown_ro p q P.V.J.ring v (.pointer (some ⟨g, 0, none⟩)) (.pointer (some ⟨s, 0, none⟩)) P.marked P.floor P.acked
  have hg := lgrant_ok s P.S hs e now
  repeat (first | refine GD ?_ | refine NW fun _ => ?_)
  refine WL.step rfl (OP.callRO rfl rfl hdn (Ent.at (up_blk _ _ _) MM) rfl rfl ?_)
  repeat (first | refine GD ?_ | refine NW fun _ => ?_)
  refine WL.step rfl (OP.call (pre := [siteA s P.S]) rfl rfl hg PS rfl rfl ?_)
  rintro er _ ⟨E, hE, rfl⟩
  rw [List.append_assoc]
  repeat (first | refine GD ?_ | refine NW fun _ => ?_)
  refine WL.step rfl (OP.call (pre := E) rfl rfl (pwrong_any e _ er E hE ?_) (Imp.refl _) rfl rfl ?_)
  · intro l c h
    cases hq : (grantS P.S e now).1 with
    | none => rw [hq] at h; cases h
    | some k =>
      rw [hq] at h
      cases h
      exact grantS_code hq
  intro w M hM
  repeat (first | refine GD ?_ | refine NW fun _ => ?_)
  refine ret1 rfl ⟨M ++ [priA p q (grantP P e now).2], ⟨M, ?_, rfl⟩, ?_⟩
  · have : (grantP P e now).1 = wrapE primT e ((grantS P.S e now).1.map (leEr e)) := by
      unfold grantP
      cases (grantS P.S e now).1 <;> rfl
    rw [this]
    exact hM
  · rw [List.append_assoc]
    refine Imp.appL ?_ _
    exact Imp.trans II (priFold p q (grantP P e now).2 v g s (N := [F]))
end Go.Proofs.YtanjfjiaheghcaaGreatDoor
/- Contracts of functions of the given program, and plain laws on what they compute: parts of the proofs of laws. -/

namespace Go.Proofs.YtanjfjiaheghcaaGreatDoor
open Go Go.GL

/-! a primary: what reads, and writes -/
set_option maxHeartbeats 2000000 in
set_option maxRecDepth 10000 in
theorem pfrozen_ro (p q : Nat) (P : Pri) : RO G 35 [.pointer (some ⟨p, 0, none⟩)] (priA p q P) (.tuple #[.int .i64 P.G.round, .int .i64 P.G.wait.length]) := by
  refine RO.enterEx Tryz.func35 rfl (by decide) rfl Tryz.ntmps35 rfl (fun x A hu hA => ?_)
  obtain ⟨v, g, s⟩ := x
  have hB : ∀ {L}, A ∈ L → Ent L (blk p (pndC q P.V.J.ring (.pointer (some ⟨v, 0, none⟩)) (.pointer (some ⟨g, 0, none⟩)) (.pointer (some ⟨s, 0, none⟩)) P.marked P.floor P.acked) pnT) := fun m => Ent.of hu hA m (Ent.at (up_blk _ _ _) (List.Mem.head _))
  have hC : ∀ {L} {i : Nat} {y : Value}, A ∈ L → (pndC q P.V.J.ring (.pointer (some ⟨v, 0, none⟩)) (.pointer (some ⟨g, 0, none⟩)) (.pointer (some ⟨s, 0, none⟩)) P.marked P.floor P.acked)[i]? = some y → Ent L (cellAt p i y) := fun m h => Ent.of hu hA m (Ent.blk (T := pnT) (List.Mem.head _) h)
  have hG : ∀ {L}, A ∈ L → Ent L (gateA g P.G) := fun m => Ent.of hu hA m (Ent.at (up_gateA _ _) (List.Mem.tail _ (List.Mem.tail _ (List.Mem.head _))))
  have hdn := pdown_ro p q P.V.J.ring v (.pointer (some ⟨g, 0, none⟩)) (.pointer (some ⟨s, 0, none⟩)) P.marked P.floor P.acked
  repeat (first | refine GD ?_ | refine NW fun _ => ?_)
  refine WL.step rfl (OP.callRO rfl rfl hdn (hB MM) rfl rfl ?_)
  repeat (first | refine GD ?_ | refine NW fun _ => ?_)
  refine RD 12 12 (_) ?_
  refine WP 0 ?_
  refine WP 1 ?_
  refine WP 2 ?_
  refine VL 3 (.pointer (some ⟨g, 0, none⟩)) rfl rfl rfl rfl (.inl ⟨rfl, hC (i := 3) MM rfl⟩) ?_
  refine WP 5 ?_
  refine WP 6 ?_
  refine WP 7 ?_
  refine VL 8 (.pointer (some ⟨g, 0, none⟩)) rfl rfl rfl rfl (.inl ⟨rfl, hC (i := 3) MM rfl⟩) ?_
  refine WH.only 4 rfl rfl (by kernel_rfl) rfl (OP.callRO rfl rfl (gfrozen_ro g P.G) (hG MM) rfl rfl ⟨fun _ => II, ?_⟩)
  refine WH.only 9 rfl rfl (by kernel_rfl) rfl (OP.callRO rfl rfl (gwaiting_ro g P.G) (hG MM) rfl rfl ⟨fun _ => II, ?_⟩)
  refine WP 10 ?_
  refine WP 11 ?_
  refine DN ?_
  repeat (first | refine GD ?_ | refine NW fun _ => ?_)
  exact ret2 rfl rfl ⟨rfl, MM⟩
set_option maxHeartbeats 2000000 in
set_option maxRecDepth 10000 in
theorem pnext_ro (p q : Nat) (P : Pri) (hV : P.V.rng) : RO G 36 [.pointer (some ⟨p, 0, none⟩)] (priA p q P) (.tuple #[.int .i64 P.V.J.next, .int .i64 P.acked]) := by
  refine RO.enterEx Tryz.func36 rfl (by decide) rfl Tryz.ntmps36 rfl (fun x A hu hA => ?_)
  obtain ⟨v, g, s⟩ := x
  have hB : ∀ {L}, A ∈ L → Ent L (blk p (pndC q P.V.J.ring (.pointer (some ⟨v, 0, none⟩)) (.pointer (some ⟨g, 0, none⟩)) (.pointer (some ⟨s, 0, none⟩)) P.marked P.floor P.acked) pnT) := fun m => Ent.of hu hA m (Ent.at (up_blk _ _ _) (List.Mem.head _))
  have hC : ∀ {L} {i : Nat} {y : Value}, A ∈ L → (pndC q P.V.J.ring (.pointer (some ⟨v, 0, none⟩)) (.pointer (some ⟨g, 0, none⟩)) (.pointer (some ⟨s, 0, none⟩)) P.marked P.floor P.acked)[i]? = some y → Ent L (cellAt p i y) := fun m h => Ent.of hu hA m (Ent.blk (T := pnT) (List.Mem.head _) h)
  have hVo : ∀ {L}, A ∈ L → Ent L (vol v q P.V) := fun m => Ent.of hu hA m (Ent.at (up_vol _ _ _) (List.Mem.tail _ (List.Mem.head _)))
  have hdn := pdown_ro p q P.V.J.ring v (.pointer (some ⟨g, 0, none⟩)) (.pointer (some ⟨s, 0, none⟩)) P.marked P.floor P.acked
  repeat (first | refine GD ?_ | refine NW fun _ => ?_)
  refine WL.step rfl (OP.callRO rfl rfl hdn (hB MM) rfl rfl ?_)
  repeat (first | refine GD ?_ | refine NW fun _ => ?_)
  refine RD 11 11 (_) ?_
  refine WP 0 ?_
  refine WP 1 ?_
  refine WP 2 ?_
  refine VL 3 (.pointer (some ⟨v, 0, none⟩)) rfl rfl rfl rfl (.inl ⟨rfl, hC (i := 2) MM rfl⟩) ?_
  refine WP 5 ?_
  refine WP 6 ?_
  refine WP 7 ?_
  refine VL 8 (.int .i64 P.acked) rfl rfl rfl rfl (.inl ⟨rfl, hC (i := 7) MM rfl⟩) ?_
  refine WH.only 4 rfl rfl (by kernel_rfl) rfl (OP.callRO rfl rfl (vnext_ro v q P.V hV) (hVo MM) rfl rfl ⟨fun _ => II, ?_⟩)
  refine WP 9 ?_
  refine WP 10 ?_
  refine DN ?_
  repeat (first | refine GD ?_ | refine NW fun _ => ?_)
  exact ret2 rfl rfl ⟨rfl, MM⟩
theorem isEr_hd {l : List (ByteArray × Int)} {c : Int} {v : Value} {E : List Assn} (h : IsEr (some (l, c)) v E) (hl : l ≠ []) : ∃ y ch, ((y :: ch : Chain).map Prod.snd = l) ∧ v = .iface 169 (.pointer (some ⟨y.1, 0, none⟩)) ∧ E = [chainR (y :: ch) c] := by
  obtain ⟨ch, h1, h2, h3⟩ := h
  cases ch with
  | nil => exact absurd h1.symm hl
  | cons y ch => exact ⟨y, ch, h1, h2, h3⟩
def PReadPost (P : Pri) (block : Int) (x : Value) (M : List Assn) : Prop := match readV P.V block with
  | .ok d => x = .tuple #[.string d, .nilIface] ∧ M = []
  | .error (l, c) => ∃ e, IsEr (some ((primT, block) :: l, c)) e M ∧ x = .tuple #[.string ⟨#[]⟩, e]
theorem readV_ne {V : Vol} {block : Int} {l : List (ByteArray × Int)} {c : Int} (h : readV V block = .error (l, c)) : c ≠ 0 := by
  unfold readV at h
  split at h
  · cases h; decide
  · cases h
set_option maxHeartbeats 2000000 in
set_option maxRecDepth 10000 in
theorem pread_rt (p q : Nat) (P : Pri) (block : Int) (hV : P.V.rng) : RT G 16 [.pointer (some ⟨p, 0, none⟩), .int .i64 block] (priA p q P) (PReadPost P block) := by
  refine RT.enterEx Tryz.func16 rfl (by decide) rfl Tryz.ntmps16 rfl (fun x A hu hA => ?_)
  obtain ⟨v, g, s⟩ := x
  have hB : ∀ {L}, A ∈ L → Ent L (blk p (pndC q P.V.J.ring (.pointer (some ⟨v, 0, none⟩)) (.pointer (some ⟨g, 0, none⟩)) (.pointer (some ⟨s, 0, none⟩)) P.marked P.floor P.acked) pnT) := fun m => Ent.of hu hA m (Ent.at (up_blk _ _ _) (List.Mem.head _))
  have hC : ∀ {L} {i : Nat} {y : Value}, A ∈ L → (pndC q P.V.J.ring (.pointer (some ⟨v, 0, none⟩)) (.pointer (some ⟨g, 0, none⟩)) (.pointer (some ⟨s, 0, none⟩)) P.marked P.floor P.acked)[i]? = some y → Ent L (cellAt p i y) := fun m h => Ent.of hu hA m (Ent.blk (T := pnT) (List.Mem.head _) h)
  have hVo : ∀ {L}, A ∈ L → Ent L (vol v q P.V) := fun m => Ent.of hu hA m (Ent.at (up_vol _ _ _) (List.Mem.tail _ (List.Mem.head _)))
  have hdn := pdown_ro p q P.V.J.ring v (.pointer (some ⟨g, 0, none⟩)) (.pointer (some ⟨s, 0, none⟩)) P.marked P.floor P.acked
  repeat (first | refine GD ?_ | refine NW fun _ => ?_)
  refine WL.step rfl (OP.callRO rfl rfl hdn (hB MM) rfl rfl ?_)
  repeat (first | refine GD ?_ | refine NW fun _ => ?_)
  refine WL.step rfl (OP.load1 (v := .pointer (some ⟨v, 0, none⟩)) rfl rfl rfl rfl (hC (i := 2) MM rfl) rfl rfl ?_)
  repeat (first | refine GD ?_ | refine NW fun _ => ?_)
  refine WL.step rfl (OP.callRT rfl rfl (vread_rt v q P.V block hV) (hVo MM) rfl rfl ?_)
  intro w E hE
  unfold VReadPost at hE
  cases hq : readV P.V block with
  | ok d =>
    rw [hq] at hE
    obtain ⟨rfl, rfl⟩ := hE
    repeat (first | refine GD ?_ | refine NW fun _ => ?_)
    refine WL.step rfl (OP.callRO rfl rfl (pwrong_nil block) (fun _ _ => trivial) rfl rfl ?_)
    repeat (first | refine GD ?_ | refine NW fun _ => ?_)
    exact ret2 rfl rfl ⟨[], by unfold PReadPost; rw [hq]; exact ⟨rfl, rfl⟩, Imp.refl _⟩
  | error lc =>
    obtain ⟨l, c⟩ := lc
    rw [hq] at hE
    obtain ⟨e, hE, rfl⟩ := hE
    repeat (first | refine GD ?_ | refine NW fun _ => ?_)
    refine WL.step rfl (OP.call (pre := E) rfl rfl (pwrong_any block _ e E hE (fun _ _ h => by cases h; exact readV_ne hq)) (Imp.refl _) rfl rfl ?_)
    intro w M hM
    repeat (first | refine GD ?_ | refine NW fun _ => ?_)
    exact ret2 rfl rfl ⟨M, by unfold PReadPost; rw [hq]; exact ⟨w, hM, rfl⟩, Imp.refl _⟩
def rightO (c : Call) : Er := if ¬ (0 ≤ c.2.1 ∧ c.2.1 < 8) then some ([], 5) else if 16 < c.2.2.size then some ([], 1) else none
set_option maxHeartbeats 2000000 in
set_option maxRecDepth 10000 in
theorem pright_rt (c : Call) (hsz : c.2.2.size < 1000000) : RT G 52 [.agg (encCa c).toArray] (fun _ => True) (IsEr (rightO c)) := by
  refine RT.enter Tryz.func52 rfl (by decide) rfl Tryz.ntmps52 rfl (fun A hu hA => ?_)
  obtain ⟨id, block, data⟩ := c
  have hdef : rightO (id, block, data) = if ¬ (0 ≤ block ∧ block < 8) then some ([], 5) else if 16 < data.size then some ([], 1) else none := rfl
  rw [show encCa (id, block, data) = [.int .i64 id, .int .i64 block, .string data] from rfl]
  dsimp only at hsz
  by_cases h1 : block < 0
  · rw [if_pos (by omega)] at hdef
    repeat (first | refine GD ?_ | refine NW fun _ => ?_)
    exact ret1 rfl ⟨[fun _ => True], by rw [hdef]; exact ⟨[], rfl, rfl, rfl⟩, Imp.trans (Imp.pureB (p := True) trivial) II⟩
  by_cases h2 : 8 ≤ block
  · rw [if_pos (by omega)] at hdef
    repeat (first | refine GD ?_ | refine NW fun _ => ?_)
    exact ret1 rfl ⟨[fun _ => True], by rw [hdef]; exact ⟨[], rfl, rfl, rfl⟩, Imp.trans (Imp.pureB (p := True) trivial) II⟩
  rw [if_neg (by omega)] at hdef
  by_cases h3 : 16 < data.size
  · rw [if_pos h3] at hdef
    repeat (first | refine GD ?_ | refine NW fun _ => ?_)
    exact ret1 rfl ⟨[fun _ => True], by rw [hdef]; exact ⟨[], rfl, rfl, rfl⟩, Imp.trans (Imp.pureB (p := True) trivial) II⟩
  · rw [if_neg h3] at hdef
    repeat (first | refine GD ?_ | refine NW fun _ => ?_)
    exact ret1 rfl ⟨[], by rw [hdef]; exact ⟨rfl, rfl⟩, II⟩
def DoPost (p q : Nat) (P : Pri) (c : Call) (x : Value) (M : List Assn) : Prop := match doP P c with
  | .ok (k, P') => x = .tuple #[.int .i64 k, .nilIface] ∧ M = [priA p q P', dsk q P'.D]
  | .error er => ∃ e E, IsEr (some er) e E ∧ x = .tuple #[.int .i64 0, e] ∧ M = E ++ [priA p q P, dsk q P.D]
set_option maxHeartbeats 4000000 in
set_option maxRecDepth 10000 in
theorem pdo_ok (p q : Nat) (P : Pri) (B : Int) (I : PInv P B) (hB : B + 4 ≤ widest) (c : Call) (hc : RightC c) : Triple G 54 [.pointer (some ⟨p, 0, none⟩), .agg (encCa c).toArray] [priA p q P, dsk q P.D] (DoPost p q P c) := by
  refine Triple.enter Tryz.func54 rfl (by decide) rfl Tryz.ntmps54 rfl (fun F => ?_)
  refine WC.open (M := [dsk q P.D, F]) (Ls := priL p q P) II (fun x => ?_)
  obtain ⟨v, g, s⟩ := x
  have hdef : doP P c = match writeV P.V P.D c.2.1 c.2.2 with
    | .error e => .error e
    | .ok (V', D') => .ok (P.V.J.next, { P with V := V', D := D'.flush }) := rfl
  have hW := I.W
  have hwr := vwrite_ok v q P.V P.D c.2.1 c.2.2 (I.rng (by omega)) I.V.len (by rw [hW]; decide) (by have := hc.2; omega)
  unfold AppVP at hwr
  have hap : ∀ {V' D'}, writeV P.V P.D c.2.1 c.2.2 = .ok (V', D') → D'.ok ∧ D'.W.length < 10000 ∧ V'.J.ring = P.V.J.ring := fun {V' D'} h => by
    unfold writeV at h
    rw [if_neg (fun h => h hc.1), if_neg (by have := hc.2; omega)] at h
    obtain ⟨I2, e, _⟩ := I.V.append h
    exact ⟨I2.j.dok, I2.j.few, e⟩
  unfold priL
  dsimp only [List.cons_append, List.nil_append]
  obtain ⟨id, block, data⟩ := c
  rw [show encCa (id, block, data) = [.int .i64 id, .int .i64 block, .string data] from rfl]
  dsimp only at hdef hwr hap
  repeat (first | refine GD ?_ | refine NW fun _ => ?_)
  cases hq : writeV P.V P.D block data with
  | error lc =>
    obtain ⟨l, cd⟩ := lc
    rw [hq] at hwr hdef
    refine RD 8 14 (_) ?_
    refine WP 0 ?_
    refine WP 1 ?_
    refine WP 2 ?_
    refine VV 3 ?_
    refine WP 4 ?_
    refine VV 5 ?_
    refine WP 6 ?_
    refine VV 7 ?_
    refine WH.only 8 rfl rfl (by kernel_rfl) rfl (OP.call (pre := [vol v q P.V, dsk q P.D]) rfl rfl hwr PS rfl rfl (fun x M hM => ?_))
    obtain ⟨e, E, hE, rfl, rfl⟩ := hM
    obtain ⟨ch, h1, rfl, rfl⟩ := hE
    refine ⟨(fun h => nomatch h), ?_⟩
    refine WP 9 ?_
    refine WP 10 ?_
    refine WP 11 ?_
    refine WP 12 ?_
    refine WP 13 ?_
    refine DN ?_
    cases ch with
    | nil =>
      dsimp only [valOf]
      repeat (first | refine GD ?_ | refine NW fun _ => ?_)
      refine ret2 rfl rfl ⟨[chainR [] cd] ++ [priA p q P, dsk q P.D], by unfold DoPost; rw [hdef]; exact ⟨_, _, ⟨[], h1, rfl, rfl⟩, rfl, rfl⟩, ?_⟩
      exact Imp.trans II (Imp.trans (priFold p q P v g s (N := [chainR [] cd, dsk q P.D, F])) II)
    | cons y ch =>
      dsimp only [valOf]
      repeat (first | refine GD ?_ | refine NW fun _ => ?_)
      refine ret2 rfl rfl ⟨[chainR (y :: ch) cd] ++ [priA p q P, dsk q P.D], by unfold DoPost; rw [hdef]; exact ⟨_, _, ⟨y :: ch, h1, rfl, rfl⟩, rfl, rfl⟩, ?_⟩
      exact Imp.trans II (Imp.trans (priFold p q P v g s (N := [chainR (y :: ch) cd, dsk q P.D, F])) II)
  | ok y =>
    obtain ⟨V', D'⟩ := y
    obtain ⟨d1, d2, d3⟩ := hap hq
    rw [hq] at hwr hdef
    dsimp only at hwr hdef
    refine RD 8 14 (_) ?_
    refine WP 0 ?_
    refine WP 1 ?_
    refine WP 2 ?_
    refine VV 3 ?_
    refine WP 4 ?_
    refine VV 5 ?_
    refine WP 6 ?_
    refine VV 7 ?_
    refine WH.only 8 rfl rfl (by kernel_rfl) rfl (OP.call (pre := [vol v q P.V, dsk q P.D]) rfl rfl hwr PS rfl rfl (fun x M hM => ?_))
    obtain ⟨rfl, rfl⟩ := hM
    refine ⟨(fun h => nomatch h), ?_⟩
    refine WP 9 ?_
    refine WP 10 ?_
    refine WP 11 ?_
    refine WP 12 ?_
    refine WP 13 ?_
    refine DN ?_
    repeat (first | refine GD ?_ | refine NW fun _ => ?_)
    refine WL.step rfl (OP.call (pre := [vol v q V', dsk q D']) rfl rfl (vflush_ok v q V' D' d1 d2) PS rfl rfl ?_)
    rintro _ _ ⟨rfl, rfl⟩
    repeat (first | refine GD ?_ | refine NW fun _ => ?_)
    refine ret2 rfl rfl ⟨[priA p q { P with V := V', D := D'.flush }, dsk q D'.flush], by unfold DoPost; rw [hdef]; exact ⟨rfl, rfl⟩, ?_⟩
    have hf := priFold p q { P with V := V', D := D'.flush } v g s (N := [dsk q D'.flush, F])
    dsimp only at hf
    rw [d3] at hf
    exact Imp.trans II hf
end Go.Proofs.YtanjfjiaheghcaaGreatDoor
