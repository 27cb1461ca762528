/-
  The law JournalCounts holds: whatever the input, the Go function returns true, and each argument reads as it did. Conditions: none beyond the statement's own.
-/
import Derived.Test.YteednjcoapmkaaaZJournal4
import Derived.Test.YteednjcoapmkaaaZJournal9
import Derived.Test.YteednjcoapmkaaaRows
import Derived.Test.YteednjcoapmkaaaZJournal3
/- Contracts of functions of the given program, and plain laws on what they compute: parts of the proofs of laws. -/

namespace Go.Proofs.Yteednjcoapmkaaa
open Go Go.GL

theorem JInv.rng {J : Jrn} {D : Dsk} {f : Nat} {B : Int} (I : JInv J D f B) (hB : B + 2 ≤ widest) : J.rng := by
  have h1 := I.ring
  have h2 := I.len
  have h3 := I.hdr
  have h4 := I.bound
  have hw : widest = 1152921504606846975 := rfl
  exact ⟨⟨h1.1, h1.2.1⟩, h2, by omega, by omega, by omega⟩
theorem JInv.few {J : Jrn} {D : Dsk} {f : Nat} {B : Int} (I : JInv J D f B) : D.W.length < 10000 := by
  have h1 := I.ring
  have h2 := I.len
  have h3 := I.wlen
  omega
theorem JInv.mono {J : Jrn} {D : Dsk} {f : Nat} {B B' : Int} (I : JInv J D f B) (h : B ≤ B') : JInv J D f B' := { I with bound := Int.le_trans I.bound h }
set_option maxHeartbeats 4000000 in
set_option maxRecDepth 10000 in
theorem jawake_ro : RO G 9 [] (fun _ => True) (.bool true) := by
  refine RO.enter Try.func9 rfl (by decide) rfl Try.ntmps9 rfl (fun A hu hA => ?_) (fun _ _ _ h => h)
  have hw : widest = 1152921504606846975 := rfl
  obtain ⟨ho, I⟩ := JInv.fresh (n := 6) (ring := 4) (by decide) (by decide) (by decide) (by decide)
  repeat (first | refine GO ?_ | refine NW fun _ => ?_)
  refine WL.step rfl (OP.callRT rfl rfl (dnew_rt 6) (fun _ _ => trivial) rfl rfl ?_)
  rintro _ _ ⟨p, rfl, rfl⟩
  refine WL.step rfl (OP.call (pre := [dsk p (Dsk.new 6)]) rfl rfl (jopen_ok p (Dsk.new 6) 4 (Dsk.new_ok 6) (by decide) (by decide)) PS rfl rfl ?_)
  intro v M hO
  unfold OpenJ at hO
  have ho' : openM (Dsk.new 6) 4 = _ := ho
  rw [ho'] at hO
  obtain ⟨j, rfl, rfl⟩ := hO
  generalize saveM (Dsk.new ((6 : Nat) : Int)) ⟨1, 1, 1, 0⟩ = D at *
  repeat (first | refine GO ?_ | refine NW fun _ => ?_)
  have hap : appendM ⟨4, ⟨1, 1, 1, 0⟩, []⟩ D (0, 2, 0, ⟨#[]⟩, 3) = .ok (⟨4, ⟨1, 1, 1, 0⟩, [(1, 1, 2, 0, ⟨#[]⟩, 3)]⟩, D.put (posM 4 1) (sectorM (bodyM 1 (1, 2, 0, ⟨#[]⟩, 3)))) := by
    unfold appendM
    rw [if_neg (by decide), if_pos (by decide)]
    rfl
  have hI := (I.append hap).1
  refine WL.step rfl (OP.call (pre := [jrn j p ⟨4, ⟨1, 1, 1, 0⟩, []⟩, dsk p D]) rfl rfl (jappend_ok j p _ D (0, 2, 0, ⟨#[]⟩, 3) (I.rng (by omega)) I.ring.2.2 I.few (by decide)) PS rfl rfl ?_)
  intro v M hA'
  unfold AppJ at hA'
  rw [hap] at hA'
  obtain ⟨rfl, rfl⟩ := hA'
  generalize D.put (posM 4 1) (sectorM (bodyM 1 (1, 2, 0, ⟨#[]⟩, 3))) = D' at *
  have hr := hI.rng (by omega)
  repeat (first | refine GD ?_ | refine NW fun _ => ?_)
  refine WL.guardT rfl rfl rfl rfl (OP.callRO rfl rfl (jnext_ro j p _ hr) (Ent.at (up_jrn _ _ _) MM) rfl rfl ?_)
  repeat (first | refine GD ?_ | refine NW fun _ => ?_)
  refine WL.guardT rfl rfl rfl rfl (OP.callRO rfl rfl (jroom_ro j p _ hr) (Ent.at (up_jrn _ _ _) MM) rfl rfl ?_)
  repeat (first | refine GD ?_ | refine NW fun _ => ?_)
  refine WL.guardT rfl rfl rfl rfl (OP.callRT rfl rfl (jrecords_rt j p _ hr) (Ent.at (up_jrn _ _ _) MM) rfl rfl ?_)
  rintro _ _ ⟨a, cap, rfl, rfl⟩
  repeat (first | refine GD ?_ | refine NW fun _ => ?_)
  exact ret1 rfl ⟨rfl, MM⟩
end Go.Proofs.Yteednjcoapmkaaa
/- Contracts of functions of the given program, and plain laws on what they compute: parts of the proofs of laws. -/

namespace Go.Proofs.Yteednjcoapmkaaa
open Go Go.GL

def ringN (b : UInt8) : Nat := 1 + b.toNat % 16
theorem ringN_bd (b : UInt8) : 1 ≤ ringN b ∧ ringN b ≤ 16 ∧ 1 + (b.toNat : Int) % 16 = (ringN b : Int) ∧ 2 + (ringN b : Int) = ((2 + ringN b : Nat) : Int) := by unfold ringN; omega
/-- a journal that was played with -/
def Played (r : UInt8) (n : Nat) (p j : Nat) (J : Jrn) (D : Dsk) (f : Nat) (B : Int) (v : Value) (E : List Assn) : Prop :=
  v = .tuple #[.pointer (some ⟨p, 0, none⟩), .pointer (some ⟨j, 0, none⟩)] ∧ JInv J D f B ∧ B ≤ 3 + 2 * n ∧ J.ring = ringN r ∧ E = [jrn j p J, dsk p D]
set_option maxHeartbeats 8000000 in
set_option maxRecDepth 10000 in
theorem jplayed_rt (r : UInt8) (a : Option Addr) (n c : Nat) (l : List JOp) (hn : n = l.length) (hs : n ≤ 80) (hd : ∀ o ∈ l, o.2.2.1.2.2.2.1.size ≤ 300) (hk : ∀ o ∈ l, 0 ≤ o.2.2.2 ∧ o.2.2.2 < 18446744073709551616) :
    RT G 18 [.int .u8 (r.toNat : Int), .slice a n c] (readS a n 8 (l.flatMap encJ)) (fun v E => ∃ p j J D f B, Played r n p j J D f B v E) := by
  refine RT.enter Try.func18 rfl (by decide) rfl Try.ntmps18 rfl (fun A hu hA => ?_)
  have hE : ∀ {L}, A ∈ L → Ent L (readS a n 8 (l.flatMap encJ)) := fun m => Ent.mem m hu hA
  have hw : widest = 1152921504606846975 := rfl
  obtain ⟨b1, b2, b3, b4⟩ := ringN_bd r
  have hr8 := r.toNat_lt
  obtain ⟨ho, I0⟩ := JInv.fresh (n := 2 + ringN r) (ring := ringN r) b1 (by omega) (Nat.le_refl _) (by omega)
  repeat (first | refine GO ?_ | refine NW fun _ => ?_)
  rw [b3]
  generalize hN : ringN r = N at *
  repeat (first | refine GO ?_ | refine NW fun _ => ?_)
  rw [b4]
  refine WL.step rfl (OP.callRT rfl rfl (dnew_rt _) (fun _ _ => trivial) rfl rfl ?_)
  rintro _ _ ⟨p, rfl, rfl⟩
  repeat (first | refine GO ?_ | refine NW fun _ => ?_)
  refine WL.step rfl (OP.call (pre := [dsk p (Dsk.new ((2 + N : Nat) : Int))]) rfl rfl (jopen_ok p _ N (Dsk.new_ok _) (by show (0 : Nat) < 10000; decide) (by omega)) PS rfl rfl ?_)
  intro v M hO
  unfold OpenJ at hO
  rw [ho] at hO
  obtain ⟨j, rfl, rfl⟩ := hO
  repeat (first | refine GO ?_ | refine NW fun _ => ?_)
  refine WC.loop (σ := Nat × Nat × Jrn × Dsk × Nat × Int) (fun s => s.1 ≤ n ∧ JInv s.2.2.1 s.2.2.2.1 s.2.2.2.2.1 s.2.2.2.2.2 ∧ s.2.2.2.2.2 ≤ 3 + 2 * s.1 ∧ s.2.2.1.ring = N)
    (fun s => [(1, .val (.slice a n c)), (6, .val (.int .i64 N)), (7, .val (.pointer (some ⟨p, 0, none⟩))), (8, .val (.pointer (some ⟨s.2.1, 0, none⟩))), (27, .val (.int .i64 n)), (28, .val (.int .i64 s.1))])
    (fun s => [jrn s.2.1 p s.2.2.1, dsk p s.2.2.2.1, A]) (fun s => n - s.1) (0, j, _, _, 0, 3) ⟨Nat.zero_le _, I0, (by show (3 : Int) ≤ 3 + 2 * ((0 : Nat) : Int); decide), rfl⟩ ⟨rfl, rfl, rfl, rfl, rfl, rfl, trivial⟩ II ?_
  rintro ⟨k, j', J, D, f, B⟩ ⟨hk1, I, hB, hring⟩
  dsimp only at hk1 I hB hring ⊢
  by_cases hlt : k < n
  rotate_left
  · have he : k = n := by omega
    subst he
    repeat (first | refine GD ?_ | refine NW fun _ => ?_)
    exact ret2 rfl rfl ⟨_, ⟨p, j', J, D, f, B, rfl, I, hB, hring.trans hN.symm, rfl⟩, Imp.refl _⟩
  have hlk : k < l.length := by omega
  have hod := hd l[k] (List.getElem_mem hlk)
  have hok := hk l[k] (List.getElem_mem hlk)
  refine WC.fact (Ent.some (hE MM) (by omega)) ?_
  rintro ⟨b, off, rfl⟩
  have hel : ∀ {L} (i : Nat) (v : Value), Nat.blt i 8 = true → (encJ l[k])[i]? = some v → A ∈ L → Ent L (cellAt b (off + k * 8 + i) v) := fun i v hi hv m => Ent.elF encJ_len (hE m) hlk hi hv
  have her : ∀ {L}, A ∈ L → Ent L (cellsAt b (off + k * 8 + 2) (encR l[k].2.2.1)) := fun m => Ent.elems (size := 1) (n := 8) (cs := encJ l[k]) (i := 2) (fun h s => ⟨rfl, .inr ⟨b, off + k * 8, rfl, Ent.elA encJ_len (hE m) hlk h s⟩⟩) rfl rfl
  generalize l[k] = o at *
  obtain ⟨kind, num, rec, keep⟩ := o
  dsimp only at hod hok
  repeat (first | refine GD ?_ | refine NW fun _ => ?_)
  refine WL.step rfl (OP.load1 (v := .int .i64 kind) rfl rfl rfl rfl (hel 0 _ rfl rfl MM) rfl rfl ?_)
  by_cases k1 : kind = 1
  · subst k1
    repeat (first | refine GD ?_ | refine NW fun _ => ?_)
    refine WL.step rfl (OP.loadA (l := encR rec) rfl rfl rfl rfl (her MM) rfl rfl rfl ?_)
    refine WL.step rfl (OP.call (pre := [jrn j' p J, dsk p D]) rfl rfl (jappend_ok j' p J D rec (I.rng (by omega)) I.ring.2.2 I.few (by omega)) PS rfl rfl ?_)
    intro v M hM
    unfold AppJ at hM
    cases hap : appendM J D rec with
    | error c =>
      rw [hap] at hM
      obtain ⟨e, E, ⟨ch, hch, he, rfl⟩, rfl, rfl⟩ := hM
      repeat (first | refine GD ?_ | refine NW fun _ => ?_)
      exact ⟨(k + 1, j', J, D, f, B), ⟨by dsimp only; omega, I, by dsimp only; omega, hring⟩, by dsimp only; omega, ⟨rfl, rfl, rfl, rfl, rfl, rfl, trivial⟩, II⟩
    | ok y =>
      obtain ⟨J2, D2⟩ := y
      rw [hap] at hM
      obtain ⟨rfl, rfl⟩ := hM
      obtain ⟨I2, _, hr2, _⟩ := I.append hap
      repeat (first | refine GD ?_ | refine NW fun _ => ?_)
      exact ⟨(k + 1, j', J2, D2, f, B + 2), ⟨by dsimp only; omega, I2, by dsimp only; omega, hr2.trans hring⟩, by dsimp only; omega, ⟨rfl, rfl, rfl, rfl, rfl, rfl, trivial⟩, II⟩
  by_cases k2 : kind = 2
  · subst k2
    repeat (first | refine GD ?_ | refine NW fun _ => ?_)
    refine WL.step rfl (OP.call (pre := [jrn j' p J, dsk p D]) rfl rfl (jflush_ok j' p J D I.dok I.few) PS rfl rfl ?_)
    rintro _ _ ⟨rfl, rfl⟩
    have I2 := I.flush (by omega)
    repeat (first | refine GD ?_ | refine NW fun _ => ?_)
    exact ⟨(k + 1, j', J, D.flush, J.held.length, B), ⟨by dsimp only; omega, I2, by dsimp only; omega, hring⟩, by dsimp only; omega, ⟨rfl, rfl, rfl, rfl, rfl, rfl, trivial⟩, II⟩
  by_cases k3 : kind = 3
  · subst k3
    repeat (first | refine GD ?_ | refine NW fun _ => ?_)
    refine WL.step rfl (OP.load1 (v := .int .i64 num) rfl rfl rfl rfl (hel 1 _ rfl rfl MM) rfl rfl ?_)
    refine WL.step rfl (OP.call (pre := [jrn j' p J, dsk p D]) rfl rfl (jtrim_ok j' p J D num (I.rng (by omega)) I.dok I.ring.2.2 I.few) PS rfl rfl ?_)
    intro v M hM
    unfold TrimJ at hM
    cases htr : trimM J D num with
    | error c =>
      rw [htr] at hM
      obtain ⟨E, ⟨ch, hch, rfl, rfl⟩, rfl⟩ := hM
      repeat (first | refine GD ?_ | refine NW fun _ => ?_)
      exact ⟨(k + 1, j', J, D, f, B), ⟨by dsimp only; omega, I, by dsimp only; omega, hring⟩, by dsimp only; omega, ⟨rfl, rfl, rfl, rfl, rfl, rfl, trivial⟩, II⟩
    | ok y =>
      obtain ⟨J2, D2⟩ := y
      rw [htr] at hM
      obtain ⟨rfl, rfl⟩ := hM
      rcases I.trim (by omega) htr with ⟨_, rfl, rfl⟩ | ⟨_, _, _, _, hr2, I2, _⟩
      · repeat (first | refine GD ?_ | refine NW fun _ => ?_)
        exact ⟨(k + 1, j', J2, D2, f, B), ⟨by dsimp only; omega, I, by dsimp only; omega, hring⟩, by dsimp only; omega, ⟨rfl, rfl, rfl, rfl, rfl, rfl, trivial⟩, II⟩
      · repeat (first | refine GD ?_ | refine NW fun _ => ?_)
        exact ⟨(k + 1, j', J2, D2, J2.held.length, B + 2), ⟨by dsimp only; omega, I2, by dsimp only; omega, hr2.trans hring⟩, by dsimp only; omega, ⟨rfl, rfl, rfl, rfl, rfl, rfl, trivial⟩, II⟩
  by_cases k4 : kind = 4
  rotate_left
  · repeat (first | refine GD ?_ | refine NW fun _ => ?_)
    exact ⟨(k + 1, j', J, D, f, B), ⟨by dsimp only; omega, I, by dsimp only; omega, hring⟩, by dsimp only; omega, ⟨rfl, rfl, rfl, rfl, rfl, rfl, trivial⟩, II⟩
  subst k4
  repeat (first | refine GD ?_ | refine NW fun _ => ?_)
  refine WL.step rfl (OP.load1 (v := .int .u64 keep) rfl rfl rfl rfl (hel 7 _ rfl rfl MM) rfl rfl ?_)
  refine WL.step rfl (OP.call (pre := [dsk p D]) rfl rfl (dcrash_ok p D keep hok I.dok (by have := I.few; omega)) PS rfl rfl ?_)
  rintro _ _ ⟨rfl, rfl⟩
  obtain ⟨q, _, _, _, ho2, I2⟩ := I.crash (by omega) (keeps keep)
  rw [hring] at ho2 I2
  have hD2 : (D.crash keep).ok := Dsk.settle_ok I.dok _
  have hop := jopen_ok p (D.crash keep) N hD2 (by show (0 : Nat) < 10000; decide) (by omega)
  unfold OpenJ at hop
  rw [show openM (D.crash keep) N = _ from ho2] at hop
  generalize D.crash keep = D3 at *
  repeat (first | refine GD ?_ | refine NW fun _ => ?_)
  refine WL.step rfl (OP.call (pre := [dsk p D3]) rfl rfl hop PS rfl rfl ?_)
  rintro v M ⟨j3, rfl, rfl⟩
  repeat (first | refine GD ?_ | refine NW fun _ => ?_)
  exact ⟨(k + 1, j3, _, _, q, B + 2), ⟨by dsimp only; omega, I2, by dsimp only; omega, rfl⟩, by dsimp only; omega, ⟨rfl, rfl, rfl, rfl, rfl, rfl, trivial⟩, II⟩
end Go.Proofs.Yteednjcoapmkaaa
/- Contracts of functions of the given program, and plain laws on what they compute: parts of the proofs of laws. -/

namespace Go.Proofs.Yteednjcoapmkaaa
open Go Go.GL

theorem recs_flat (l : List Held) : l.flatMap (fun x => encR x.2) = (l.map Prod.snd).flatMap encR := by rw [List.flatMap_map]
set_option maxHeartbeats 8000000 in
set_option maxRecDepth 10000 in
theorem jagain_ro (r t : UInt8) (a : Option Addr) (n c : Nat) (l : List JOp) (keep : Int) (hn : n = l.length) (hk : ∀ o ∈ l, 0 ≤ o.2.2.2 ∧ o.2.2.2 < 18446744073709551616) (hkeep : 0 ≤ keep ∧ keep < 18446744073709551616) :
    RO G 6 [.int .u8 (r.toNat : Int), .slice a n c, .int .u8 (t.toNat : Int), .int .u64 keep] (readS a n 8 (l.flatMap encJ)) (.bool true) := by
  refine RO.enter Try.func6 rfl (by decide) rfl Try.ntmps6 rfl (fun A hu hA => ?_) (up_readS _ _ _ _)
  have hE : ∀ {L}, A ∈ L → Ent L (readS a n 8 (l.flatMap encJ)) := fun m => Ent.mem m hu hA
  have hw : widest = 1152921504606846975 := rfl
  obtain ⟨b1, b2, b3, b4⟩ := ringN_bd r
  have hr8 := r.toNat_lt
  have ht8 := t.toNat_lt
  repeat (first | refine GO ?_ | refine NW fun _ => ?_)
  refine WL.step rfl (OP.callRO rfl rfl jawake_ro (fun _ _ => trivial) rfl rfl ?_)
  repeat (first | refine GD ?_ | refine NW fun _ => ?_)
  refine WL.guardT rfl rfl rfl rfl (OP.callRO rfl rfl (jfew_ro a n c l hn) (hE MM) rfl rfl ?_)
  cases hf : fewB l
  · repeat (first | refine GD ?_ | refine NW fun _ => ?_)
    refine WL.step rfl (OP.callRO rfl rfl jawake_ro (fun _ _ => trivial) rfl rfl ?_)
    repeat (first | refine GD ?_ | refine NW fun _ => ?_)
    exact ret1 rfl ⟨rfl, MM⟩
  unfold fewB at hf
  rw [Bool.and_eq_true] at hf
  have h80 := of_decide_eq_true hf.1
  have hd : ∀ o ∈ l, o.2.2.1.2.2.2.1.size ≤ 300 := fun o ho => of_decide_eq_true (List.all_eq_true.1 hf.2 o ho)
  repeat (first | refine GD ?_ | refine NW fun _ => ?_)
  refine WL.step rfl (OP.callRT rfl rfl (jplayed_rt r a n c l hn (by omega) hd hk) (hE MM) rfl rfl ?_)
  rintro _ _ ⟨p, j, J, D, f, B, rfl, I, hB, hring, rfl⟩
  repeat (first | refine GD ?_ | refine NW fun _ => ?_)
  refine WL.step rfl (OP.call (pre := [jrn j p J, dsk p D]) rfl rfl (jflush_ok j p J D I.dok I.few) PS rfl rfl ?_)
  rintro _ _ ⟨rfl, rfl⟩
  have I1 := I.flush (by omega)
  generalize D.flush = D1 at *
  repeat (first | refine GD ?_ | refine NW fun _ => ?_)
  refine WL.step rfl (OP.callRT rfl rfl (jrecords_rt j p J (I1.rng (by omega))) (Ent.at (up_jrn _ _ _) MM) rfl rfl ?_)
  rintro _ _ ⟨aw, capw, rfl, rfl⟩
  repeat (first | refine GD ?_ | refine NW fun _ => ?_)
  refine WL.step rfl (OP.callRO rfl rfl (jnext_ro j p J (I1.rng (by omega))) (Ent.at (up_jrn _ _ _) MM) rfl rfl ?_)
  repeat (first | refine GD ?_ | refine NW fun _ => ?_)
  refine WC.loop (σ := Nat × Jrn × Dsk × Int) (fun s => s.1 ≤ 1 + t.toNat % 5 ∧ JInv s.2.1 s.2.2.1 s.2.1.held.length s.2.2.2 ∧ s.2.2.2 ≤ 3 + 2 * n + 2 * s.1 ∧ s.2.1.ring = ringN r ∧ s.2.1.held = J.held ∧ s.2.1.hd.first = J.hd.first)
    (fun s => [(0, .val (.int .u8 (r.toNat : Int))), (3, .val (.int .u64 keep)), (9, .val (.pointer (some ⟨p, 0, none⟩))), (11, .val (.slice aw J.held.length capw)), (12, .val (.int .i64 J.next)), (40, .val (.int .i64 (1 + (t.toNat : Int) % 5))), (41, .val (.int .i64 s.1))])
    (fun s => [ownS aw J.held.length capw 34 5 (J.held.flatMap (fun x => encR x.2)), dsk p s.2.2.1, A]) (fun s => 1 + t.toNat % 5 - s.1) (0, J, D1, B) ⟨Nat.zero_le _, I1, (by show B ≤ 3 + 2 * (n : Int) + 2 * ((0 : Nat) : Int); omega), hring, rfl, rfl⟩ ⟨rfl, rfl, rfl, rfl, rfl, rfl, rfl, trivial⟩ II ?_
  rintro ⟨k, J2, D2, B2⟩ ⟨hk1, I2, hB2, hr2, hh2, hf2⟩
  dsimp only at hk1 I2 hB2 hr2 hh2 hf2 ⊢
  by_cases hlt : k < 1 + t.toNat % 5
  rotate_left
  · repeat (first | refine GD ?_ | refine NW fun _ => ?_)
    exact ret1 rfl ⟨rfl, MM⟩
  repeat (first | refine GD ?_ | refine NW fun _ => ?_)
  refine WL.step rfl (OP.call (pre := [dsk p D2]) rfl rfl (dcrash_ok p D2 keep hkeep I2.dok (by have := I2.few; omega)) PS rfl rfl ?_)
  rintro _ _ ⟨rfl, rfl⟩
  obtain ⟨q, q1, q2, _, ho2, I3⟩ := I2.crash (by omega) (keeps keep)
  have hq : q = J2.held.length := by omega
  rw [hq, List.take_length] at ho2 I3
  have hD2 : (D2.crash keep).ok := Dsk.settle_ok I2.dok _
  rw [hr2] at ho2 I3
  have hop := jopen_ok p (D2.crash keep) (ringN r) hD2 (by show (0 : Nat) < 10000; decide) (by omega)
  unfold OpenJ at hop
  rw [show openM (D2.crash keep) (ringN r) = _ from ho2] at hop
  generalize hJ3 : (⟨ringN r, { J2.hd with gen := J2.hd.gen + 1, turn := J2.hd.turn + 1 }, J2.held⟩ : Jrn) = J3 at *
  have e1 : J3.held = J.held := by rw [← hJ3]; exact hh2
  have e2 : J3.hd.first = J.hd.first := by rw [← hJ3]; exact hf2
  have e3 : J3.ring = ringN r := by rw [← hJ3]
  rw [show J2.held.length = J3.held.length by rw [e1, hh2]] at I3
  generalize D2.crash keep = D3 at *
  rw [← b3] at hop
  repeat (first | refine GD ?_ | refine NW fun _ => ?_)
  refine WL.step rfl (OP.call (pre := [dsk p D3]) rfl rfl hop PS rfl rfl ?_)
  rintro v M ⟨j3, rfl, rfl⟩
  have hr3 := I3.rng (by omega)
  repeat (first | refine GD ?_ | refine NW fun _ => ?_)
  refine WL.guardT rfl rfl rfl rfl (OP.callRT rfl rfl (jrecords_rt j3 p J3 hr3) (Ent.at (up_jrn _ _ _) MM) rfl rfl ?_)
  rintro _ _ ⟨a4, cap4, rfl, rfl⟩
  rw [e1]
  repeat (first | refine GD ?_ | refine NW fun _ => ?_)
  refine WL.guardT rfl rfl rfl rfl (OP.callRO rfl rfl (jsame_ro a4 aw J.held.length cap4 J.held.length capw (J.held.map Prod.snd) (J.held.map Prod.snd) (by simp) (by simp) (by have := I.ring; have := I.len; omega)) (Ent.and (by rw [← recs_flat]; exact Ent.own (T := 34) MM) (by rw [← recs_flat]; exact Ent.own (T := 34) MM)) rfl rfl ?_)
  rw [decide_eq_true rfl]
  repeat (first | refine GD ?_ | refine NW fun _ => ?_)
  refine WL.guardT rfl rfl rfl rfl (OP.callRO rfl rfl (jnext_ro j3 p J3 hr3) (Ent.at (up_jrn _ _ _) MM) rfl rfl ?_)
  have e4 : J3.next = J.next := by unfold Jrn.next; rw [e1, e2]
  rw [e4]
  repeat (first | refine GD ?_ | refine NW fun _ => ?_)
  exact ⟨(k + 1, J3, _, B2 + 2), ⟨by dsimp only; omega, I3, by dsimp only; omega, e3, e1, e2⟩, by dsimp only; omega, ⟨rfl, rfl, rfl, rfl, rfl, rfl, rfl, trivial⟩, II⟩
end Go.Proofs.Yteednjcoapmkaaa
/- Contracts of functions of the given program, and plain laws on what they compute: parts of the proofs of laws. -/

namespace Go.Proofs.Yteednjcoapmkaaa
open Go Go.GL

theorem Imp.dropApp {L : List Assn} : ∀ (E : List Assn), Imp (E ++ L) L
  | [] => Imp.refl _
  | _ :: E => Imp.dropTail (Imp.dropApp E)
/-- an append, whatever comes of it -/
theorem jappend_inv (j p : Nat) (J : Jrn) (D : Dsk) (f : Nat) (B : Int) (r : Rec) (I : JInv J D f B) (hB : B + 2 ≤ widest) (hsz : r.2.2.2.1.size < 1000000) :
    Triple G 15 [.pointer (some ⟨j, 0, none⟩), .agg (encR r).toArray] [jrn j p J, dsk p D]
      (fun _ M => ∃ J2 D2, JInv J2 D2 f (B + 2) ∧ J2.ring = J.ring ∧ J2.hd = J.hd ∧ (∃ s, J2.held = J.held ++ s) ∧ M = [jrn j p J2, dsk p D2]) := by
  refine (jappend_ok j p J D r (I.rng hB) I.ring.2.2 I.few hsz).mono (fun v M hM => ?_)
  unfold AppJ at hM
  cases hap : appendM J D r with
  | error c =>
    rw [hap] at hM
    obtain ⟨e, E, _, _, rfl⟩ := hM
    exact ⟨_, ⟨J, D, I.mono (by omega), rfl, rfl, ⟨[], by simp⟩, rfl⟩, Imp.dropApp E⟩
  | ok y =>
    obtain ⟨J2, D2⟩ := y
    rw [hap] at hM
    obtain ⟨_, rfl⟩ := hM
    obtain ⟨I2, h1, h2, h3⟩ := I.append hap
    exact ⟨_, ⟨J2, D2, I2, h2, h1, ⟨_, h3⟩, rfl⟩, Imp.refl _⟩
set_option maxHeartbeats 8000000 in
set_option maxRecDepth 10000 in
theorem jgaps_ro (r : UInt8) (a : Option Addr) (n c : Nat) (l : List JOp) (a2 : Option Addr) (n2 c2 : Nat) (l2 : List Rec) (keep : Int) (hn : n = l.length) (hn2 : n2 = l2.length) (hk : ∀ o ∈ l, 0 ≤ o.2.2.2 ∧ o.2.2.2 < 18446744073709551616) (hkeep : 0 ≤ keep ∧ keep < 18446744073709551616) :
    RO G 4 [.int .u8 (r.toNat : Int), .slice a n c, .slice a2 n2 c2, .int .u64 keep] (fun h => readS a n 8 (l.flatMap encJ) h ∧ readS a2 n2 5 (l2.flatMap encR) h) (.bool true) := by
  refine RO.enter Try.func4 rfl (by decide) rfl Try.ntmps4 rfl (fun A hu hA => ?_) (up_and (up_readS _ _ _ _) (up_readS _ _ _ _))
  have hE : ∀ {L}, A ∈ L → Ent L (readS a n 8 (l.flatMap encJ)) := fun m => Ent.mem m hu fun k x => (hA k x).1
  have hE2 : ∀ {L}, A ∈ L → Ent L (readS a2 n2 5 (l2.flatMap encR)) := fun m => Ent.mem m hu fun k x => (hA k x).2
  have hw : widest = 1152921504606846975 := rfl
  obtain ⟨b1, b2, b3, b4⟩ := ringN_bd r
  have hr8 := r.toNat_lt
  repeat (first | refine GO ?_ | refine NW fun _ => ?_)
  refine WL.step rfl (OP.callRO rfl rfl jawake_ro (fun _ _ => trivial) rfl rfl ?_)
  repeat (first | refine GD ?_ | refine NW fun _ => ?_)
  refine WL.guardT rfl rfl rfl rfl (OP.callRO rfl rfl (jfew_ro a n c l hn) (hE MM) rfl rfl ?_)
  cases hf : fewB l
  · repeat (first | refine GD ?_ | refine NW fun _ => ?_)
    refine WL.step rfl (OP.callRO rfl rfl jawake_ro (fun _ _ => trivial) rfl rfl ?_)
    repeat (first | refine GD ?_ | refine NW fun _ => ?_)
    exact ret1 rfl ⟨rfl, MM⟩
  unfold fewB at hf
  rw [Bool.and_eq_true] at hf
  have h80 := of_decide_eq_true hf.1
  have hd : ∀ o ∈ l, o.2.2.1.2.2.2.1.size ≤ 300 := fun o ho => of_decide_eq_true (List.all_eq_true.1 hf.2 o ho)
  by_cases h20 : 20 < n2
  · repeat (first | refine GD ?_ | refine NW fun _ => ?_)
    refine WL.step rfl (OP.callRO rfl rfl jawake_ro (fun _ _ => trivial) rfl rfl ?_)
    repeat (first | refine GD ?_ | refine NW fun _ => ?_)
    exact ret1 rfl ⟨rfl, MM⟩
  repeat (first | refine GD ?_ | refine NW fun _ => ?_)
  refine WL.step rfl (OP.callRT rfl rfl (jplayed_rt r a n c l hn (by omega) hd hk) (hE MM) rfl rfl ?_)
  rintro _ _ ⟨p, j, J, D, f, B, rfl, I, hB, hring, rfl⟩
  repeat (first | refine GD ?_ | refine NW fun _ => ?_)
  refine WL.step rfl (OP.call (pre := [jrn j p J, dsk p D]) rfl rfl (jflush_ok j p J D I.dok I.few) PS rfl rfl ?_)
  rintro _ _ ⟨rfl, rfl⟩
  have I1 := I.flush (by omega)
  generalize D.flush = D1 at *
  repeat (first | refine GD ?_ | refine NW fun _ => ?_)
  refine WL.step rfl (OP.callRT rfl rfl (jrecords_rt j p J (I1.rng (by omega))) (Ent.at (up_jrn _ _ _) MM) rfl rfl ?_)
  rintro _ _ ⟨aw, capw, rfl, rfl⟩
  repeat (first | refine GD ?_ | refine NW fun _ => ?_)
  refine WC.loop (σ := Nat × Jrn × Dsk × Int) (fun s => s.1 ≤ n2 ∧ JInv s.2.1 s.2.2.1 J.held.length s.2.2.2 ∧ s.2.2.2 ≤ 3 + 2 * n + 2 * s.1 ∧ s.2.1.ring = ringN r)
    (fun s => [(0, .val (.int .u8 (r.toNat : Int))), (2, .val (.slice a2 n2 c2)), (3, .val (.int .u64 keep)), (9, .val (.pointer (some ⟨p, 0, none⟩))), (10, .val (.pointer (some ⟨j, 0, none⟩))), (11, .val (.slice aw J.held.length capw)), (43, .val (.int .i64 n2)), (44, .val (.int .i64 s.1))])
    (fun s => [jrn j p s.2.1, dsk p s.2.2.1, A]) (fun s => n2 - s.1) (0, J, D1, B) ⟨Nat.zero_le _, I1, (by show B ≤ 3 + 2 * (n : Int) + 2 * ((0 : Nat) : Int); omega), hring⟩ ⟨rfl, rfl, rfl, rfl, rfl, rfl, rfl, rfl, trivial⟩ II ?_
  rintro ⟨k, J2, D2, B2⟩ ⟨hk1, I2, hB2, hr2⟩
  dsimp only at hk1 I2 hB2 hr2 ⊢
  by_cases hlt : k < n2
  · have hlk : k < l2.length := by omega
    refine WC.fact (Ent.some (hE2 MM) (by omega)) ?_
    rintro ⟨b, off, rfl⟩
    have hel : ∀ {L}, A ∈ L → Ent L (cellsAt b (off + k * 5) (encR l2[k])) := fun m => Ent.elA encR_len (hE2 m) hlk
    repeat (first | refine GD ?_ | refine NW fun _ => ?_)
    refine WL.step rfl (OP.load1 (v := .string l2[k].2.2.2.1) rfl rfl rfl rfl (Ent.elF encR_len (j := 3) (hE2 MM) hlk rfl rfl) rfl rfl ?_)
    generalize l2[k] = rc at *
    by_cases h300 : (rc.2.2.2.1.size : Int) < 300
    · repeat (first | refine GD ?_ | refine NW fun _ => ?_)
      refine WL.step rfl (OP.loadA (l := encR rc) rfl rfl rfl rfl (hel MM) rfl rfl rfl ?_)
      refine WL.step rfl (OP.call (pre := [jrn j p J2, dsk p D2]) rfl rfl (jappend_inv j p J2 D2 _ B2 rc I2 (by omega) (by omega)) PS rfl rfl ?_)
      rintro v _ ⟨J3, D3, I3, hr3, _, _, rfl⟩
      repeat (first | refine GD ?_ | refine NW fun _ => ?_)
      exact ⟨(k + 1, J3, D3, B2 + 2), ⟨by dsimp only; omega, I3, by dsimp only; omega, hr3.trans hr2⟩, by dsimp only; omega, ⟨rfl, rfl, rfl, rfl, rfl, rfl, rfl, rfl, trivial⟩, II⟩
    · repeat (first | refine GD ?_ | refine NW fun _ => ?_)
      exact ⟨(k + 1, J2, D2, B2), ⟨by dsimp only; omega, I2, by dsimp only; omega, hr2⟩, by dsimp only; omega, ⟨rfl, rfl, rfl, rfl, rfl, rfl, rfl, rfl, trivial⟩, II⟩
  repeat (first | refine GD ?_ | refine NW fun _ => ?_)
  refine WL.step rfl (OP.callRT rfl rfl (jrecords_rt j p J2 (I2.rng (by omega))) (Ent.at (up_jrn _ _ _) MM) rfl rfl ?_)
  rintro _ _ ⟨al, capl, rfl, rfl⟩
  repeat (first | refine GD ?_ | refine NW fun _ => ?_)
  refine WL.step rfl (OP.call (pre := [dsk p D2]) rfl rfl (dcrash_ok p D2 keep hkeep I2.dok (by have := I2.few; omega)) PS rfl rfl ?_)
  rintro _ _ ⟨rfl, rfl⟩
  obtain ⟨q, q1, q2, _, ho2, I3⟩ := I2.crash (by omega) (keeps keep)
  have hD2 : (D2.crash keep).ok := Dsk.settle_ok I2.dok _
  rw [hr2] at ho2 I3
  have hop := jopen_ok p (D2.crash keep) (ringN r) hD2 (by show (0 : Nat) < 10000; decide) (by omega)
  unfold OpenJ at hop
  rw [show openM (D2.crash keep) (ringN r) = _ from ho2] at hop
  generalize hJ3 : (⟨ringN r, { J2.hd with gen := J2.hd.gen + 1, turn := J2.hd.turn + 1 }, J2.held.take q⟩ : Jrn) = J3 at *
  have e1 : J3.held = J2.held.take q := by rw [← hJ3]
  have e2 : J3.held.length = q := by rw [e1, List.length_take]; omega
  generalize D2.crash keep = D3 at *
  rw [← b3] at hop
  have hjl : J2.held.length ≤ 16 := by have := I2.len; omega
  repeat (first | refine GD ?_ | refine NW fun _ => ?_)
  refine WL.step rfl (OP.call (pre := [dsk p D3]) rfl rfl hop PS rfl rfl ?_)
  rintro v M ⟨j3, rfl, rfl⟩
  have hr3 := I3.rng (by omega)
  repeat (first | refine GD ?_ | refine NW fun _ => ?_)
  refine WL.step rfl (OP.callRT rfl rfl (jrecords_rt j3 p J3 hr3) (Ent.at (up_jrn _ _ _) MM) rfl rfl ?_)
  rintro _ _ ⟨a4, cap4, rfl, rfl⟩
  rw [e2]
  refine WL.fact (Ent.ownLe (a := al) (n := J2.held.length) (cap := capl) (T := 34) (size := 5) (cs := J2.held.flatMap (fun x => encR x.2)) MM) (fun hcl => ?_)
  have hq3 : (q : Int) ≤ capl := by omega
  have hq1 : (J.held.length : Int) ≤ q := by omega
  have hq2 : (q : Int) ≤ J2.held.length := by omega
  repeat (first | refine GD ?_ | refine NW fun _ => ?_)
  have e3 : (J3.held.map Prod.snd) = ((J2.held.take q).map Prod.snd) := by rw [e1]
  refine WL.guardT rfl rfl rfl rfl (OP.callRO rfl rfl (jsame_ro a4 al q cap4 q _ (J3.held.map Prod.snd) ((J2.held.take q).map Prod.snd) (by rw [List.length_map, e2]) (by rw [List.length_map, List.length_take]; omega) (by omega)) (Ent.and (by rw [← recs_flat]; exact Ent.own (T := 34) MM) (fun h s => by
    have := readS_take (m := q) (Ent.own (a := al) (n := J2.held.length) (cap := capl) (T := 34) (size := 5) (cs := J2.held.flatMap (fun x => encR x.2)) MM h s) q2
    rw [flat_take (f := fun x : Held => encR x.2) (fun _ => rfl)] at this
    rw [← recs_flat]
    exact this)) rfl rfl ?_)
  rw [decide_eq_true e3]
  repeat (first | refine GD ?_ | refine NW fun _ => ?_)
  exact ret1 rfl ⟨rfl, MM⟩
end Go.Proofs.Yteednjcoapmkaaa
/- Contracts of functions of the given program, and plain laws on what they compute: parts of the proofs of laws. -/

namespace Go.Proofs.Yteednjcoapmkaaa
open Go Go.GL

/-- opened again behind a crash -/
theorem jreopen_ok (p : Nat) (J : Jrn) (D : Dsk) (f : Nat) (B : Int) (kept : Nat → Bool) (I : JInv J D f B) (hB : B + 2 ≤ widest) : Triple G 11 [.pointer (some ⟨p, 0, none⟩), .int .i64 J.ring] [dsk p (D.settle kept)]
    (fun v M => ∃ j3 J3 D3 q, v = .tuple #[.pointer (some ⟨j3, 0, none⟩), .nilIface] ∧ JInv J3 D3 q (B + 2) ∧ J3.ring = J.ring ∧ f ≤ q ∧ q ≤ J.held.length ∧ J3.held = J.held.take q ∧ J3.hd.first = J.hd.first ∧ M = [jrn j3 p J3, dsk p D3]) := by
  obtain ⟨q, q1, q2, _, ho, I3⟩ := I.crash hB kept
  have hr := I.ring
  refine (jopen_ok p (D.settle kept) J.ring (Dsk.settle_ok I.dok _) (by show (0 : Nat) < 10000; decide) (by omega)).mono (fun v M hM => ?_)
  unfold OpenJ at hM
  rw [ho] at hM
  obtain ⟨j3, rfl, rfl⟩ := hM
  exact ⟨_, ⟨j3, _, _, q, rfl, I3, rfl, q1, q2, rfl, rfl, rfl⟩, Imp.refl _⟩
set_option maxHeartbeats 16000000 in
set_option maxRecDepth 10000 in
theorem jlost_ro (r lost more drop : UInt8) (a : Option Addr) (n c : Nat) (l : List JOp) (keep : Int) (hn : n = l.length) (hk : ∀ o ∈ l, 0 ≤ o.2.2.2 ∧ o.2.2.2 < 18446744073709551616) (hkeep : 0 ≤ keep ∧ keep < 18446744073709551616) :
    RO G 5 [.int .u8 (r.toNat : Int), .slice a n c, .int .u8 (lost.toNat : Int), .int .u64 keep, .int .u8 (more.toNat : Int), .int .u8 (drop.toNat : Int)] (readS a n 8 (l.flatMap encJ)) (.bool true) := by
  refine RO.enter Try.func5 rfl (by decide) rfl Try.ntmps5 rfl (fun A hu hA => ?_) (up_readS _ _ _ _)
  have hE : ∀ {L}, A ∈ L → Ent L (readS a n 8 (l.flatMap encJ)) := fun m => Ent.mem m hu hA
  have hw : widest = 1152921504606846975 := rfl
  obtain ⟨b1, b2, b3, b4⟩ := ringN_bd r
  have hr8 := r.toNat_lt
  have hl8 := lost.toNat_lt
  have hm8 := more.toNat_lt
  have hd8 := drop.toNat_lt
  repeat (first | refine GO ?_ | refine NW fun _ => ?_)
  refine WL.step rfl (OP.callRO rfl rfl jawake_ro (fun _ _ => trivial) rfl rfl ?_)
  repeat (first | refine GD ?_ | refine NW fun _ => ?_)
  refine WL.guardT rfl rfl rfl rfl (OP.callRO rfl rfl (jfew_ro a n c l hn) (hE MM) rfl rfl ?_)
  cases hf : fewB l
  · repeat (first | refine GD ?_ | refine NW fun _ => ?_)
    refine WL.step rfl (OP.callRO rfl rfl jawake_ro (fun _ _ => trivial) rfl rfl ?_)
    repeat (first | refine GD ?_ | refine NW fun _ => ?_)
    exact ret1 rfl ⟨rfl, MM⟩
  unfold fewB at hf
  rw [Bool.and_eq_true] at hf
  have h80 := of_decide_eq_true hf.1
  have hd : ∀ o ∈ l, o.2.2.1.2.2.2.1.size ≤ 300 := fun o ho => of_decide_eq_true (List.all_eq_true.1 hf.2 o ho)
  repeat (first | refine GD ?_ | refine NW fun _ => ?_)
  refine WL.step rfl (OP.callRT rfl rfl (jplayed_rt r a n c l hn (by omega) hd hk) (hE MM) rfl rfl ?_)
  rintro _ _ ⟨p, j, J, D, f, B, rfl, I, hB, hring, rfl⟩
  repeat (first | refine GD ?_ | refine NW fun _ => ?_)
  refine WL.step rfl (OP.call (pre := [jrn j p J, dsk p D]) rfl rfl (jflush_ok j p J D I.dok I.few) PS rfl rfl ?_)
  rintro _ _ ⟨rfl, rfl⟩
  have I1 := I.flush (by omega)
  generalize D.flush = D1 at *
  repeat (first | refine GD ?_ | refine NW fun _ => ?_)
  refine WC.loop (σ := Nat × Jrn × Dsk × Int) (fun s => s.1 ≤ lost.toNat % 17 ∧ JInv s.2.1 s.2.2.1 J.held.length s.2.2.2 ∧ s.2.2.2 ≤ 3 + 2 * n + 2 * s.1 + 0 ∧ s.2.1.ring = ringN r)
    (fun s => [(0, .val (.int .u8 (r.toNat : Int))), (3, .val (.int .u64 keep)), (4, .val (.int .u8 (more.toNat : Int))), (5, .val (.int .u8 (drop.toNat : Int))), (13, .val (.pointer (some ⟨p, 0, none⟩))), (14, .val (.pointer (some ⟨j, 0, none⟩))), (42, .val (.int .i64 ((lost.toNat : Int) % 17))), (43, .val (.int .i64 s.1))])
    (fun s => [jrn j p s.2.1, dsk p s.2.2.1, A]) (fun s => lost.toNat % 17 - s.1) (0, J, D1, B) ⟨Nat.zero_le _, I1, (by show B ≤ 3 + 2 * (n : Int) + 2 * ((0 : Nat) : Int) + 0; omega), hring⟩ ⟨rfl, rfl, rfl, rfl, rfl, rfl, rfl, rfl, trivial⟩ II ?_
  rintro ⟨k, J2, D2, B2⟩ ⟨hk1, I2, hB2, hr2⟩
  dsimp only at hk1 I2 hB2 hr2 ⊢
  by_cases hlt : k < lost.toNat % 17
  · repeat (first | refine GD ?_ | refine NW fun _ => ?_)
    refine WL.step rfl (OP.call (pre := [jrn j p J2, dsk p D2]) rfl rfl (jappend_inv j p J2 D2 _ B2 (0, 1, (k : Int) % 8, ⟨#[108, 111, 115, 116]⟩, 0) I2 (by omega) (by change (4 : Nat) < 1000000; decide)) PS rfl rfl ?_)
    rintro v _ ⟨J3, D3, I3, hr3, _, _, rfl⟩
    repeat (first | refine GD ?_ | refine NW fun _ => ?_)
    exact ⟨(k + 1, J3, D3, B2 + 2), ⟨by dsimp only; omega, I3, by dsimp only; omega, hr3.trans hr2⟩, by dsimp only; omega, ⟨rfl, rfl, rfl, rfl, rfl, rfl, rfl, rfl, trivial⟩, II⟩
  repeat (first | refine GD ?_ | refine NW fun _ => ?_)
  refine WL.step rfl (OP.call (pre := [dsk p D2]) rfl rfl (dcrash_ok p D2 keep hkeep I2.dok (by have := I2.few; omega)) PS rfl rfl ?_)
  rintro _ _ ⟨rfl, rfl⟩
  have hop := jreopen_ok p J2 D2 _ B2 (keeps keep) I2 (by omega)
  rw [hr2, ← b3] at hop
  repeat (first | refine GD ?_ | refine NW fun _ => ?_)
  refine WL.step rfl (OP.call (pre := [dsk p (D2.crash keep)]) rfl rfl hop PS rfl rfl ?_)
  rintro v _ ⟨j3, J3, D3, q3, rfl, I3, hr3, _, _, _, _, rfl⟩
  have hr3' : J3.ring = ringN r := by omega
  clear I2 hop
  repeat (first | refine GD ?_ | refine NW fun _ => ?_)
  refine WC.loop (σ := Nat × Jrn × Dsk × Int) (fun s => s.1 ≤ more.toNat % 17 ∧ JInv s.2.1 s.2.2.1 q3 s.2.2.2 ∧ s.2.2.2 ≤ 3 + 2 * n + 2 * s.1 + 40 ∧ s.2.1.ring = ringN r)
    (fun s => [(0, .val (.int .u8 (r.toNat : Int))), (3, .val (.int .u64 keep)), (4, .val (.int .u8 (more.toNat : Int))), (5, .val (.int .u8 (drop.toNat : Int))), (13, .val (.pointer (some ⟨p, 0, none⟩))), (14, .val (.pointer (some ⟨j3, 0, none⟩))), (68, .val (.int .i64 ((more.toNat : Int) % 17))), (69, .val (.int .i64 s.1))])
    (fun s => [jrn j3 p s.2.1, dsk p s.2.2.1, A]) (fun s => more.toNat % 17 - s.1) (0, J3, D3, (B2 + 2)) ⟨Nat.zero_le _, I3, (by show (B2 + 2) ≤ 3 + 2 * (n : Int) + 2 * ((0 : Nat) : Int) + 40; omega), hr3'⟩ ⟨rfl, rfl, rfl, rfl, rfl, rfl, rfl, rfl, trivial⟩ II ?_
  rintro ⟨k, J2, D2, B2⟩ ⟨hk1, I2, hB2, hr2⟩
  dsimp only at hk1 I2 hB2 hr2 ⊢
  by_cases hlt : k < more.toNat % 17
  · repeat (first | refine GD ?_ | refine NW fun _ => ?_)
    refine WL.step rfl (OP.call (pre := [jrn j3 p J2, dsk p D2]) rfl rfl (jappend_inv j3 p J2 D2 _ B2 (0, 1, (k : Int) % 8, ⟨#[110, 101, 119]⟩, 0) I2 (by omega) (by change (3 : Nat) < 1000000; decide)) PS rfl rfl ?_)
    rintro v _ ⟨J3, D3, I3, hr3, _, _, rfl⟩
    repeat (first | refine GD ?_ | refine NW fun _ => ?_)
    exact ⟨(k + 1, J3, D3, B2 + 2), ⟨by dsimp only; omega, I3, by dsimp only; omega, hr3.trans hr2⟩, by dsimp only; omega, ⟨rfl, rfl, rfl, rfl, rfl, rfl, rfl, rfl, trivial⟩, II⟩
  repeat (first | refine GD ?_ | refine NW fun _ => ?_)
  refine WL.step rfl (OP.call (pre := [jrn j3 p J2, dsk p D2]) rfl rfl (jflush_ok j3 p J2 D2 I2.dok I2.few) PS rfl rfl ?_)
  rintro _ _ ⟨rfl, rfl⟩
  have I4 := I2.flush (by omega)
  generalize D2.flush = D4 at *
  repeat (first | refine GD ?_ | refine NW fun _ => ?_)
  refine WL.step rfl (OP.callRT rfl rfl (jrecords_rt j3 p J2 (I4.rng (by omega))) (Ent.at (up_jrn _ _ _) MM) rfl rfl ?_)
  rintro _ _ ⟨a6, cap6, rfl, rfl⟩
  obtain ⟨kk, hkk, k0, k1⟩ : ∃ kk : Int, (if (J2.held.length : Int) < (drop.toNat : Int) % 17 then (J2.held.length : Int) else (drop.toNat : Int) % 17) = kk ∧ 0 ≤ kk ∧ kk ≤ J2.held.length := ⟨_, rfl, by split <;> omega, by split <;> omega⟩
  repeat (first | refine GD ?_ | refine NW fun _ => ?_)
  rw [hkk]
  refine WL.step rfl (OP.call (pre := [jrn j3 p J2, dsk p D4]) rfl rfl (jtrim_ok j3 p J2 D4 kk (I4.rng (by omega)) I4.dok I4.ring.2.2 I4.few) PS rfl rfl ?_)
  intro v M hM
  unfold TrimJ at hM
  obtain ⟨J5, D5, htr⟩ : ∃ J5 D5, trimM J2 D4 kk = .ok (J5, D5) := by
    unfold trimM
    rw [if_neg (by omega)]
    split
    · exact ⟨_, _, rfl⟩
    · exact ⟨_, _, rfl⟩
  rw [htr] at hM
  obtain ⟨rfl, rfl⟩ := hM
  obtain ⟨I5, hr5⟩ : JInv J5 D5 J5.held.length (B2 + 2) ∧ J5.ring = ringN r := by
    rcases I4.trim (by omega) htr with ⟨_, rfl, rfl⟩ | ⟨_, _, _, _, hr2', I5, _⟩
    · exact ⟨I4.mono (by omega), hr2⟩
    · exact ⟨I5, hr2'.trans hr2⟩
  have hl5 : J5.held.length ≤ 512 := by have := I5.len; have := I5.ring; omega
  repeat (first | refine GD ?_ | refine NW fun _ => ?_)
  refine WL.step rfl (OP.callRT rfl rfl (jrecords_rt j3 p J5 (I5.rng (by omega))) (Ent.at (up_jrn _ _ _) MM) rfl rfl ?_)
  rintro _ _ ⟨aw, capw, rfl, rfl⟩
  repeat (first | refine GD ?_ | refine NW fun _ => ?_)
  refine WL.step rfl (OP.callRO rfl rfl (jnext_ro j3 p J5 (I5.rng (by omega))) (Ent.at (up_jrn _ _ _) MM) rfl rfl ?_)
  repeat (first | refine GD ?_ | refine NW fun _ => ?_)
  refine WL.step rfl (OP.call (pre := [dsk p D5]) rfl rfl (dcrash_ok p D5 0 (by decide) I5.dok (by have := I5.few; omega)) PS rfl rfl ?_)
  rintro _ _ ⟨rfl, rfl⟩
  have hop := jreopen_ok p J5 D5 _ (B2 + 2) (keeps 0) I5 (by omega)
  rw [hr5, ← b3] at hop
  repeat (first | refine GD ?_ | refine NW fun _ => ?_)
  refine WL.step rfl (OP.call (pre := [dsk p (D5.crash 0)]) rfl rfl hop PS rfl rfl ?_)
  rintro v _ ⟨j7, J7, D7, q7, rfl, I7, hr7, g1, g2, e7, f7, rfl⟩
  have hq7 : q7 = J5.held.length := by omega
  rw [hq7, List.take_length] at e7
  have hrg := I7.rng (by omega)
  repeat (first | refine GD ?_ | refine NW fun _ => ?_)
  refine WL.guardT rfl rfl rfl rfl (OP.callRT rfl rfl (jrecords_rt j7 p J7 hrg) (Ent.at (up_jrn _ _ _) MM) rfl rfl ?_)
  rintro _ _ ⟨a8, cap8, rfl, rfl⟩
  rw [e7]
  repeat (first | refine GD ?_ | refine NW fun _ => ?_)
  refine WL.guardT rfl rfl rfl rfl (OP.callRO rfl rfl (jsame_ro a8 aw J5.held.length cap8 J5.held.length capw (J5.held.map Prod.snd) (J5.held.map Prod.snd) (by simp) (by simp) (by omega)) (Ent.and (by rw [← recs_flat]; exact Ent.own (T := 34) MM) (by rw [← recs_flat]; exact Ent.own (T := 34) MM)) rfl rfl ?_)
  rw [decide_eq_true rfl]
  repeat (first | refine GD ?_ | refine NW fun _ => ?_)
  refine WL.guardT rfl rfl rfl rfl (OP.callRO rfl rfl (jnext_ro j7 p J7 hrg) (Ent.at (up_jrn _ _ _) MM) rfl rfl ?_)
  have e8 : J7.next = J5.next := by unfold Jrn.next; rw [e7, f7]
  rw [e8]
  repeat (first | refine GD ?_ | refine NW fun _ => ?_)
  exact ret1 rfl ⟨rfl, MM⟩
end Go.Proofs.Yteednjcoapmkaaa
/- Contracts of functions of the given program, and plain laws on what they compute: parts of the proofs of laws. -/

namespace Go.Proofs.Yteednjcoapmkaaa
open Go Go.GL

set_option maxHeartbeats 16000000 in
set_option maxRecDepth 10000 in
theorem jcounts_ro (r : UInt8) (a : Option Addr) (n c : Nat) (l : List JOp) (hn : n = l.length) (hi : ∀ o ∈ l, -9223372036854775808 ≤ o.2.1 ∧ o.2.1 ≤ 9223372036854775807) :
    RO G 3 [.int .u8 (r.toNat : Int), .slice a n c] (readS a n 8 (l.flatMap encJ)) (.bool true) := by
  refine RO.enter Try.func3 rfl (by decide) rfl Try.ntmps3 rfl (fun A hu hA => ?_) (up_readS _ _ _ _)
  have hE : ∀ {L}, A ∈ L → Ent L (readS a n 8 (l.flatMap encJ)) := fun m => Ent.mem m hu hA
  have hw : widest = 1152921504606846975 := rfl
  obtain ⟨b1, b2, b3, b4⟩ := ringN_bd r
  have hr8 := r.toNat_lt
  obtain ⟨ho, I0⟩ := JInv.fresh (n := 2 + ringN r) (ring := ringN r) b1 (by omega) (Nat.le_refl _) (by omega)
  repeat (first | refine GO ?_ | refine NW fun _ => ?_)
  refine WL.step rfl (OP.callRO rfl rfl jawake_ro (fun _ _ => trivial) rfl rfl ?_)
  repeat (first | refine GD ?_ | refine NW fun _ => ?_)
  refine WL.guardT rfl rfl rfl rfl (OP.callRO rfl rfl (jfew_ro a n c l hn) (hE MM) rfl rfl ?_)
  cases hf : fewB l
  · repeat (first | refine GD ?_ | refine NW fun _ => ?_)
    refine WL.step rfl (OP.callRO rfl rfl jawake_ro (fun _ _ => trivial) rfl rfl ?_)
    repeat (first | refine GD ?_ | refine NW fun _ => ?_)
    exact ret1 rfl ⟨rfl, MM⟩
  unfold fewB at hf
  rw [Bool.and_eq_true] at hf
  have h80 := of_decide_eq_true hf.1
  have hd : ∀ o ∈ l, o.2.2.1.2.2.2.1.size ≤ 300 := fun o ho => of_decide_eq_true (List.all_eq_true.1 hf.2 o ho)
  repeat (first | refine GD ?_ | refine NW fun _ => ?_)
  rw [b3]
  generalize hN : ringN r = N at *
  repeat (first | refine GO ?_ | refine NW fun _ => ?_)
  rw [b4]
  refine WL.step rfl (OP.callRT rfl rfl (dnew_rt _) (fun _ _ => trivial) rfl rfl ?_)
  rintro _ _ ⟨p, rfl, rfl⟩
  repeat (first | refine GO ?_ | refine NW fun _ => ?_)
  refine WL.step rfl (OP.call (pre := [dsk p (Dsk.new ((2 + N : Nat) : Int))]) rfl rfl (jopen_ok p _ N (Dsk.new_ok _) (by show (0 : Nat) < 10000; decide) (by omega)) PS rfl rfl ?_)
  intro v M hO
  unfold OpenJ at hO
  rw [ho] at hO
  obtain ⟨j, rfl, rfl⟩ := hO
  repeat (first | refine GO ?_ | refine NW fun _ => ?_)
  refine WC.loop (σ := Nat × Jrn × Dsk × Nat × Int) (fun s => s.1 ≤ n ∧ JInv s.2.1 s.2.2.1 s.2.2.2.1 s.2.2.2.2 ∧ s.2.2.2.2 ≤ 3 + 2 * s.1 ∧ s.2.1.ring = N)
    (fun s => [(1, .val (.slice a n c)), (5, .val (.int .i64 N)), (6, .val (.pointer (some ⟨j, 0, none⟩))), (39, .val (.int .i64 n)), (40, .val (.int .i64 s.1))])
    (fun s => [jrn j p s.2.1, dsk p s.2.2.1, A]) (fun s => n - s.1) (0, _, _, 0, 3) ⟨Nat.zero_le _, I0, (by show (3 : Int) ≤ 3 + 2 * ((0 : Nat) : Int); decide), rfl⟩ ⟨rfl, rfl, rfl, rfl, rfl, trivial⟩ II ?_
  rintro ⟨k, J, D, f, B⟩ ⟨hk1, I, hB, hring⟩
  dsimp only at hk1 I hB hring ⊢
  by_cases hlt : k < n
  rotate_left
  · repeat (first | refine GD ?_ | refine NW fun _ => ?_)
    exact ret1 rfl ⟨rfl, MM⟩
  have hlk : k < l.length := by omega
  have hod := hd l[k] (List.getElem_mem hlk)
  have hoi := hi l[k] (List.getElem_mem hlk)
  refine WC.fact (Ent.some (hE MM) (by omega)) ?_
  rintro ⟨b, off, rfl⟩
  have hel : ∀ {L} (i : Nat) (v : Value), Nat.blt i 8 = true → (encJ l[k])[i]? = some v → A ∈ L → Ent L (cellAt b (off + k * 8 + i) v) := fun i v hi hv m => Ent.elF encJ_len (hE m) hlk hi hv
  have her : ∀ {L}, A ∈ L → Ent L (cellsAt b (off + k * 8 + 2) (encR l[k].2.2.1)) := fun m => Ent.elems (size := 1) (n := 8) (cs := encJ l[k]) (i := 2) (fun h s => ⟨rfl, .inr ⟨b, off + k * 8, rfl, Ent.elA encJ_len (hE m) hlk h s⟩⟩) rfl rfl
  generalize l[k] = o at *
  obtain ⟨kind, num, rec, keep⟩ := o
  dsimp only at hod hoi
  have hr0 := I.rng (by omega)
  repeat (first | refine GD ?_ | refine NW fun _ => ?_)
  refine WL.step rfl (OP.callRO rfl rfl (jnext_ro j p J hr0) (Ent.at (up_jrn _ _ _) MM) rfl rfl ?_)
  refine WL.step rfl (OP.pure (nw := true) rfl trivial rfl rfl ?_)
  refine WL.step rfl (OP.callRO rfl rfl (jroom_ro j p J hr0) (Ent.at (up_jrn _ _ _) MM) rfl rfl ?_)
  repeat (first | refine GD ?_ | refine NW fun _ => ?_)
  refine WL.step rfl (OP.load1 (v := .int .i64 kind) rfl rfl rfl rfl (hel 0 _ rfl rfl MM) rfl rfl ?_)
  by_cases k1 : kind = 1
  · subst k1
    repeat (first | refine GD ?_ | refine NW fun _ => ?_)
    refine WL.step rfl (OP.loadA (l := encR rec) rfl rfl rfl rfl (her MM) rfl rfl rfl ?_)
    refine WL.step rfl (OP.call (pre := [jrn j p J, dsk p D]) rfl rfl (jappend_ok j p J D rec hr0 I.ring.2.2 I.few (by omega)) PS rfl rfl ?_)
    intro v M hM
    unfold AppJ at hM
    cases hap : appendM J D rec with
    | error ec =>
      rw [hap] at hM
      obtain ⟨e, E, ⟨ch, hch, he, rfl⟩, rfl, rfl⟩ := hM
      cases ch with
      | nil =>
        unfold appEr at hch
        split at hch <;> cases hch
      | cons y ch =>
        dsimp only [valOf] at he
        subst he
        repeat (first | refine GD ?_ | refine NW fun _ => ?_)
        refine WL.guardT rfl rfl rfl rfl (OP.callRO rfl rfl (jnext_ro j p J hr0) (Ent.at (up_jrn _ _ _) MM) rfl rfl ?_)
        repeat (first | refine GD ?_ | refine NW fun _ => ?_)
        refine WL.guardT rfl rfl rfl rfl (OP.callRO rfl rfl (jroom_ro j p J hr0) (Ent.at (up_jrn _ _ _) MM) rfl rfl ?_)
        repeat (first | refine GD ?_ | refine NW fun _ => ?_)
        refine WL.step rfl (OP.callRT rfl rfl (jrecords_rt j p J hr0) (Ent.at (up_jrn _ _ _) MM) rfl rfl ?_)
        rintro _ _ ⟨a4, cap4, rfl, rfl⟩
        repeat (first | refine GD ?_ | refine NW fun _ => ?_)
        refine WL.step rfl (OP.callRO rfl rfl (jroom_ro j p J hr0) (Ent.at (up_jrn _ _ _) MM) rfl rfl ?_)
        have hlen1 : (J.held.length : Int) = (N : Int) - (J.ring - J.held.length) := by rw [hring]; omega
        have hlr1 : J.held.length ≤ 512 := by have := I.len; have := I.ring; omega
        repeat (first | refine GD ?_ | refine NW fun _ => ?_)
        refine WC.loop (σ := Nat) (fun i => i ≤ J.held.length)
          (fun i => [(1, .val (.slice (some ⟨b, off, none⟩) n c)), (5, .val (.int .i64 N)), (6, .val (.pointer (some ⟨j, 0, none⟩))), (39, .val (.int .i64 n)), (40, .val (.int .i64 k)), (14, .val (.slice a4 J.held.length cap4)), (154, .val (.int .i64 J.held.length)), (155, .val (.int .i64 i))])
          (fun i => [ownS a4 J.held.length cap4 34 5 (J.held.flatMap (fun x => encR x.2)), jrn j p J, dsk p D, A]) (fun i => J.held.length - i) 0 (Nat.zero_le _) ⟨rfl, rfl, rfl, rfl, rfl, rfl, rfl, rfl, trivial⟩ II ?_
        rintro i hi1
        by_cases hil : i < J.held.length
        rotate_left
        · repeat (first | refine GD ?_ | refine NW fun _ => ?_)
          exact ⟨(k + 1, J, D, f, B), ⟨by dsimp only; omega, I, by dsimp only; omega, hring⟩, by dsimp only; omega, ⟨rfl, rfl, rfl, rfl, rfl, trivial⟩, II⟩
        have hsq := I.seq i hil
        have hz : (J.held[i]).2.1 = J.next - J.held.length + (i : Int) := by rw [hsq]; unfold Jrn.next; omega
        have hnb : 0 ≤ J.next ∧ J.next ≤ 4000000000000000000 := by have := I.hdr; have := I.bound; unfold Jrn.next; omega
        refine WC.fact (Ent.some (Ent.own (a := a4) (n := J.held.length) (cap := cap4) (T := 34) (size := 5) (cs := J.held.flatMap (fun x => encR x.2)) MM) (by omega)) ?_
        rintro ⟨b5, off5, rfl⟩
        repeat (first | refine GD ?_ | refine NW fun _ => ?_)
        refine RD 13 13 (_) ?_
        refine WP 0 ?_
        refine WP 1 ?_
        refine WP 2 ?_
        refine WP 3 ?_
        refine VL 4 (.int .i64 (J.held[i]).2.1) rfl rfl rfl rfl (.inl ⟨rfl, Ent.elF (f := fun x : Held => encR x.2) (fun _ => rfl) (j := 0) (Ent.own (T := 34) MM) hil rfl rfl⟩) ?_
        refine WP 5 ?_
        refine WP 7 ?_
        refine WP 8 ?_
        refine WP 10 ?_
        refine WH.only 6 rfl rfl (by kernel_rfl) rfl (OP.callRO rfl rfl (jnext_ro j p J hr0) (Ent.at (up_jrn _ _ _) MM) rfl rfl ⟨fun _ => II, ?_⟩)
        refine WP 9 ?_
        refine WP 11 ?_
        refine WP 12 ?_
        rw [decide_eq_true hz]
        refine DN ?_
        repeat (first | refine GD ?_ | refine NW fun _ => ?_)
        exact ⟨i + 1, by omega, by omega, ⟨rfl, rfl, rfl, rfl, rfl, rfl, rfl, rfl, trivial⟩, II⟩
    | ok y =>
      obtain ⟨J2, D2⟩ := y
      rw [hap] at hM
      obtain ⟨rfl, rfl⟩ := hM
      obtain ⟨I2, hh2, hr2, hl2⟩ := I.append hap
      have hrg2 := I2.rng (by omega)
      have hl3 : J2.held.length = J.held.length + 1 := by rw [hl2]; simp
      have hn2 : J2.next = J.next + 1 := by unfold Jrn.next; rw [hh2, hl3]; omega
      have ho2 : (J2.ring : Int) - J2.held.length = ((J.ring : Int) - J.held.length) - 1 := by rw [hr2, hl3]; omega
      have hnb0 : 0 ≤ J.next ∧ J.next ≤ 4000000000000000000 := by have := I.hdr; have := I.bound; unfold Jrn.next; omega
      have hrb : 0 ≤ (J.ring : Int) - J.held.length ∧ (J.ring : Int) - J.held.length ≤ 512 := by have := I.len; have := I.ring; omega
      repeat (first | refine GD ?_ | refine NW fun _ => ?_)
      refine WL.guardT rfl rfl rfl rfl (OP.callRO rfl rfl (jnext_ro j p J2 hrg2) (Ent.at (up_jrn _ _ _) MM) rfl rfl ?_)
      rw [hn2]
      repeat (first | refine GD ?_ | refine NW fun _ => ?_)
      refine WL.guardT rfl rfl rfl rfl (OP.callRO rfl rfl (jroom_ro j p J2 hrg2) (Ent.at (up_jrn _ _ _) MM) rfl rfl ?_)
      rw [ho2]
      repeat (first | refine GD ?_ | refine NW fun _ => ?_)
      refine WL.step rfl (OP.callRT rfl rfl (jrecords_rt j p J2 hrg2) (Ent.at (up_jrn _ _ _) MM) rfl rfl ?_)
      rintro _ _ ⟨a4, cap4, rfl, rfl⟩
      repeat (first | refine GD ?_ | refine NW fun _ => ?_)
      refine WL.step rfl (OP.callRO rfl rfl (jroom_ro j p J2 hrg2) (Ent.at (up_jrn _ _ _) MM) rfl rfl ?_)
      have hlen1 : (J2.held.length : Int) = (N : Int) - (J2.ring - J2.held.length) := by rw [hr2.trans hring]; omega
      have hlr1 : J2.held.length ≤ 512 := by have := I2.len; have := I2.ring; omega
      repeat (first | refine GD ?_ | refine NW fun _ => ?_)
      refine WC.loop (σ := Nat) (fun i => i ≤ J2.held.length)
        (fun i => [(1, .val (.slice (some ⟨b, off, none⟩) n c)), (5, .val (.int .i64 N)), (6, .val (.pointer (some ⟨j, 0, none⟩))), (39, .val (.int .i64 n)), (40, .val (.int .i64 k)), (14, .val (.slice a4 J2.held.length cap4)), (154, .val (.int .i64 J2.held.length)), (155, .val (.int .i64 i))])
        (fun i => [ownS a4 J2.held.length cap4 34 5 (J2.held.flatMap (fun x => encR x.2)), jrn j p J2, dsk p D2, A]) (fun i => J2.held.length - i) 0 (Nat.zero_le _) ⟨rfl, rfl, rfl, rfl, rfl, rfl, rfl, rfl, trivial⟩ II ?_
      rintro i hi1
      by_cases hil : i < J2.held.length
      rotate_left
      · repeat (first | refine GD ?_ | refine NW fun _ => ?_)
        exact ⟨(k + 1, J2, D2, f, B + 2), ⟨by dsimp only; omega, I2, by dsimp only; omega, hr2.trans hring⟩, by dsimp only; omega, ⟨rfl, rfl, rfl, rfl, rfl, trivial⟩, II⟩
      have hsq := I2.seq i hil
      have hz : (J2.held[i]).2.1 = J2.next - J2.held.length + (i : Int) := by rw [hsq]; unfold Jrn.next; omega
      have hnb : 0 ≤ J2.next ∧ J2.next ≤ 4000000000000000000 := by have := I2.hdr; have := I2.bound; unfold Jrn.next; omega
      refine WC.fact (Ent.some (Ent.own (a := a4) (n := J2.held.length) (cap := cap4) (T := 34) (size := 5) (cs := J2.held.flatMap (fun x => encR x.2)) MM) (by omega)) ?_
      rintro ⟨b5, off5, rfl⟩
      repeat (first | refine GD ?_ | refine NW fun _ => ?_)
      refine RD 13 13 (_) ?_
      refine WP 0 ?_
      refine WP 1 ?_
      refine WP 2 ?_
      refine WP 3 ?_
      refine VL 4 (.int .i64 (J2.held[i]).2.1) rfl rfl rfl rfl (.inl ⟨rfl, Ent.elF (f := fun x : Held => encR x.2) (fun _ => rfl) (j := 0) (Ent.own (T := 34) MM) hil rfl rfl⟩) ?_
      refine WP 5 ?_
      refine WP 7 ?_
      refine WP 8 ?_
      refine WP 10 ?_
      refine WH.only 6 rfl rfl (by kernel_rfl) rfl (OP.callRO rfl rfl (jnext_ro j p J2 hrg2) (Ent.at (up_jrn _ _ _) MM) rfl rfl ⟨fun _ => II, ?_⟩)
      refine WP 9 ?_
      refine WP 11 ?_
      refine WP 12 ?_
      rw [decide_eq_true hz]
      refine DN ?_
      repeat (first | refine GD ?_ | refine NW fun _ => ?_)
      exact ⟨i + 1, by omega, by omega, ⟨rfl, rfl, rfl, rfl, rfl, rfl, rfl, rfl, trivial⟩, II⟩
  by_cases k3 : kind = 3
  rotate_left
  · repeat (first | refine GD ?_ | refine NW fun _ => ?_)
    refine WL.step rfl (OP.callRT rfl rfl (jrecords_rt j p J hr0) (Ent.at (up_jrn _ _ _) MM) rfl rfl ?_)
    rintro _ _ ⟨a4, cap4, rfl, rfl⟩
    repeat (first | refine GD ?_ | refine NW fun _ => ?_)
    refine WL.step rfl (OP.callRO rfl rfl (jroom_ro j p J hr0) (Ent.at (up_jrn _ _ _) MM) rfl rfl ?_)
    have hlen1 : (J.held.length : Int) = (N : Int) - (J.ring - J.held.length) := by rw [hring]; omega
    have hlr1 : J.held.length ≤ 512 := by have := I.len; have := I.ring; omega
    repeat (first | refine GD ?_ | refine NW fun _ => ?_)
    refine WC.loop (σ := Nat) (fun i => i ≤ J.held.length)
      (fun i => [(1, .val (.slice (some ⟨b, off, none⟩) n c)), (5, .val (.int .i64 N)), (6, .val (.pointer (some ⟨j, 0, none⟩))), (39, .val (.int .i64 n)), (40, .val (.int .i64 k)), (14, .val (.slice a4 J.held.length cap4)), (154, .val (.int .i64 J.held.length)), (155, .val (.int .i64 i))])
      (fun i => [ownS a4 J.held.length cap4 34 5 (J.held.flatMap (fun x => encR x.2)), jrn j p J, dsk p D, A]) (fun i => J.held.length - i) 0 (Nat.zero_le _) ⟨rfl, rfl, rfl, rfl, rfl, rfl, rfl, rfl, trivial⟩ II ?_
    rintro i hi1
    by_cases hil : i < J.held.length
    rotate_left
    · repeat (first | refine GD ?_ | refine NW fun _ => ?_)
      exact ⟨(k + 1, J, D, f, B), ⟨by dsimp only; omega, I, by dsimp only; omega, hring⟩, by dsimp only; omega, ⟨rfl, rfl, rfl, rfl, rfl, trivial⟩, II⟩
    have hsq := I.seq i hil
    have hz : (J.held[i]).2.1 = J.next - J.held.length + (i : Int) := by rw [hsq]; unfold Jrn.next; omega
    have hnb : 0 ≤ J.next ∧ J.next ≤ 4000000000000000000 := by have := I.hdr; have := I.bound; unfold Jrn.next; omega
    refine WC.fact (Ent.some (Ent.own (a := a4) (n := J.held.length) (cap := cap4) (T := 34) (size := 5) (cs := J.held.flatMap (fun x => encR x.2)) MM) (by omega)) ?_
    rintro ⟨b5, off5, rfl⟩
    repeat (first | refine GD ?_ | refine NW fun _ => ?_)
    refine RD 13 13 (_) ?_
    refine WP 0 ?_
    refine WP 1 ?_
    refine WP 2 ?_
    refine WP 3 ?_
    refine VL 4 (.int .i64 (J.held[i]).2.1) rfl rfl rfl rfl (.inl ⟨rfl, Ent.elF (f := fun x : Held => encR x.2) (fun _ => rfl) (j := 0) (Ent.own (T := 34) MM) hil rfl rfl⟩) ?_
    refine WP 5 ?_
    refine WP 7 ?_
    refine WP 8 ?_
    refine WP 10 ?_
    refine WH.only 6 rfl rfl (by kernel_rfl) rfl (OP.callRO rfl rfl (jnext_ro j p J hr0) (Ent.at (up_jrn _ _ _) MM) rfl rfl ⟨fun _ => II, ?_⟩)
    refine WP 9 ?_
    refine WP 11 ?_
    refine WP 12 ?_
    rw [decide_eq_true hz]
    refine DN ?_
    repeat (first | refine GD ?_ | refine NW fun _ => ?_)
    exact ⟨i + 1, by omega, by omega, ⟨rfl, rfl, rfl, rfl, rfl, rfl, rfl, rfl, trivial⟩, II⟩
  subst k3
  repeat (first | refine GD ?_ | refine NW fun _ => ?_)
  refine WL.step rfl (OP.load1 (v := .int .i64 num) rfl rfl rfl rfl (hel 1 _ rfl rfl MM) rfl rfl ?_)
  refine WL.step rfl (OP.call (pre := [jrn j p J, dsk p D]) rfl rfl (jtrim_ok j p J D num hr0 I.dok I.ring.2.2 I.few) PS rfl rfl ?_)
  intro v M hM
  unfold TrimJ at hM
  cases htr : trimM J D num with
  | error ec =>
    rw [htr] at hM
    obtain ⟨E, ⟨ch, hch, rfl, rfl⟩, rfl⟩ := hM
    cases ch with
    | nil => cases hch
    | cons y ch =>
      dsimp only [valOf]
      repeat (first | refine GD ?_ | refine NW fun _ => ?_)
      refine RD 30 30 (_) ?_
      refine WP 0 ?_
      refine WP 2 ?_
      refine WH.only 1 rfl rfl (by kernel_rfl) rfl (OP.callRO rfl rfl (jnext_ro j p J hr0) (Ent.at (up_jrn _ _ _) MM) rfl rfl ⟨fun _ => II, ?_⟩)
      refine WP 3 ?_
      rw [decide_eq_true rfl]
      refine WP 4 ?_
      refine WP 5 ?_
      refine WP 6 ?_
      refine WP 7 ?_
      refine WP 8 ?_
      refine VF 9 ?_
      refine WP 10 ?_
      refine WP 11 ?_
      refine WP 12 ?_
      refine WP 13 ?_
      refine WP 14 ?_
      refine VF 15 ?_
      refine WP 16 ?_
      refine WP 17 ?_
      refine WP 18 ?_
      refine WP 19 ?_
      refine WP 20 ?_
      refine WP 21 ?_
      refine WP 22 ?_
      refine WP 23 ?_
      refine WP 24 ?_
      refine WP 26 ?_
      refine WH.onlyG (q := true) 25 rfl rfl rfl rfl rfl rfl rfl (by kernel_rfl) rfl (.inl rfl) (fun _ => OP.callRO rfl rfl (jroom_ro j p J hr0) (Ent.at (up_jrn _ _ _) MM) rfl rfl ⟨fun _ => II, ?_⟩) (fun h => nomatch h)
      refine WP 27 ?_
      rw [decide_eq_true rfl]
      refine WP 28 ?_
      refine WP 29 ?_
      refine DN ?_
      repeat (first | refine GD ?_ | refine NW fun _ => ?_)
      refine WL.step rfl (OP.callRT rfl rfl (jrecords_rt j p J hr0) (Ent.at (up_jrn _ _ _) MM) rfl rfl ?_)
      rintro _ _ ⟨a4, cap4, rfl, rfl⟩
      repeat (first | refine GD ?_ | refine NW fun _ => ?_)
      refine WL.step rfl (OP.callRO rfl rfl (jroom_ro j p J hr0) (Ent.at (up_jrn _ _ _) MM) rfl rfl ?_)
      have hlen1 : (J.held.length : Int) = (N : Int) - (J.ring - J.held.length) := by rw [hring]; omega
      have hlr1 : J.held.length ≤ 512 := by have := I.len; have := I.ring; omega
      repeat (first | refine GD ?_ | refine NW fun _ => ?_)
      refine WC.loop (σ := Nat) (fun i => i ≤ J.held.length)
        (fun i => [(1, .val (.slice (some ⟨b, off, none⟩) n c)), (5, .val (.int .i64 N)), (6, .val (.pointer (some ⟨j, 0, none⟩))), (39, .val (.int .i64 n)), (40, .val (.int .i64 k)), (14, .val (.slice a4 J.held.length cap4)), (154, .val (.int .i64 J.held.length)), (155, .val (.int .i64 i))])
        (fun i => [ownS a4 J.held.length cap4 34 5 (J.held.flatMap (fun x => encR x.2)), jrn j p J, dsk p D, A]) (fun i => J.held.length - i) 0 (Nat.zero_le _) ⟨rfl, rfl, rfl, rfl, rfl, rfl, rfl, rfl, trivial⟩ II ?_
      rintro i hi1
      by_cases hil : i < J.held.length
      rotate_left
      · repeat (first | refine GD ?_ | refine NW fun _ => ?_)
        exact ⟨(k + 1, J, D, f, B), ⟨by dsimp only; omega, I, by dsimp only; omega, hring⟩, by dsimp only; omega, ⟨rfl, rfl, rfl, rfl, rfl, trivial⟩, II⟩
      have hsq := I.seq i hil
      have hz : (J.held[i]).2.1 = J.next - J.held.length + (i : Int) := by rw [hsq]; unfold Jrn.next; omega
      have hnb : 0 ≤ J.next ∧ J.next ≤ 4000000000000000000 := by have := I.hdr; have := I.bound; unfold Jrn.next; omega
      refine WC.fact (Ent.some (Ent.own (a := a4) (n := J.held.length) (cap := cap4) (T := 34) (size := 5) (cs := J.held.flatMap (fun x => encR x.2)) MM) (by omega)) ?_
      rintro ⟨b5, off5, rfl⟩
      repeat (first | refine GD ?_ | refine NW fun _ => ?_)
      refine RD 13 13 (_) ?_
      refine WP 0 ?_
      refine WP 1 ?_
      refine WP 2 ?_
      refine WP 3 ?_
      refine VL 4 (.int .i64 (J.held[i]).2.1) rfl rfl rfl rfl (.inl ⟨rfl, Ent.elF (f := fun x : Held => encR x.2) (fun _ => rfl) (j := 0) (Ent.own (T := 34) MM) hil rfl rfl⟩) ?_
      refine WP 5 ?_
      refine WP 7 ?_
      refine WP 8 ?_
      refine WP 10 ?_
      refine WH.only 6 rfl rfl (by kernel_rfl) rfl (OP.callRO rfl rfl (jnext_ro j p J hr0) (Ent.at (up_jrn _ _ _) MM) rfl rfl ⟨fun _ => II, ?_⟩)
      refine WP 9 ?_
      refine WP 11 ?_
      refine WP 12 ?_
      rw [decide_eq_true hz]
      refine DN ?_
      repeat (first | refine GD ?_ | refine NW fun _ => ?_)
      exact ⟨i + 1, by omega, by omega, ⟨rfl, rfl, rfl, rfl, rfl, rfl, rfl, rfl, trivial⟩, II⟩
  | ok y =>
    obtain ⟨J2, D2⟩ := y
    rw [htr] at hM
    obtain ⟨rfl, rfl⟩ := hM
    obtain ⟨f2, I2, hr2, hn2, ho2⟩ : ∃ f2, JInv J2 D2 f2 (B + 2) ∧ J2.ring = N ∧ J2.next = J.next ∧ (J2.ring : Int) - J2.held.length = ((J.ring : Int) - J.held.length) + num := by
      rcases I.trim (by omega) htr with ⟨e0, rfl, rfl⟩ | ⟨g1, g2, g3, g4, g5, I2, _⟩
      · exact ⟨f, I.mono (by omega), hring, rfl, by omega⟩
      · have hl3 : (J2.held.length : Int) = J.held.length - num := by rw [g3, List.length_drop]; omega
        exact ⟨_, I2, g5.trans hring, by unfold Jrn.next; rw [g4]; omega, by rw [g5]; omega⟩
    have hrg2 := I2.rng (by omega)
    have hrb : 0 ≤ (J2.ring : Int) - J2.held.length ∧ (J2.ring : Int) - J2.held.length ≤ 512 := by have := I2.len; have := I2.ring; omega
    repeat (first | refine GD ?_ | refine NW fun _ => ?_)
    refine RD 30 30 (_) ?_
    refine WP 0 ?_
    refine WP 2 ?_
    refine WH.only 1 rfl rfl (by kernel_rfl) rfl (OP.callRO rfl rfl (jnext_ro j p J2 hrg2) (Ent.at (up_jrn _ _ _) MM) rfl rfl ⟨fun _ => II, ?_⟩)
    rw [hn2]
    refine WP 3 ?_
    rw [decide_eq_true rfl]
    refine WP 4 ?_
    refine WP 5 ?_
    refine WP 6 ?_
    refine WP 7 ?_
    refine WP 8 ?_
    refine WP 10 ?_
    refine WP 11 ?_
    refine WP 12 ?_
    refine WP 13 ?_
    refine WP 14 ?_
    refine VG 15 rfl (Quiet.load (v := .int .i64 num) rfl rfl rfl (.inl ⟨rfl, hel 1 _ rfl rfl MM⟩)) ?_
    refine WP 16 ?_
    refine WH.onlyG (q := true) 9 rfl rfl rfl rfl rfl rfl rfl (by kernel_rfl) rfl (.inl rfl) (fun _ => OP.callRO rfl rfl (jroom_ro j p J2 hrg2) (Ent.at (up_jrn _ _ _) MM) rfl rfl ⟨fun _ => II, ?_⟩) (fun h => nomatch h)
    rw [ho2]
    refine WP 17 ?_
    rw [decide_eq_true rfl]
    refine WP 18 ?_
    refine WP 19 ?_
    refine WP 20 ?_
    refine WP 21 ?_
    refine WP 22 ?_
    refine WP 23 ?_
    refine WP 24 ?_
    refine VF 25 ?_
    refine WP 26 ?_
    refine WP 27 ?_
    refine WP 28 ?_
    refine WP 29 ?_
    refine DN ?_
    repeat (first | refine GD ?_ | refine NW fun _ => ?_)
    refine WL.step rfl (OP.callRT rfl rfl (jrecords_rt j p J2 hrg2) (Ent.at (up_jrn _ _ _) MM) rfl rfl ?_)
    rintro _ _ ⟨a4, cap4, rfl, rfl⟩
    repeat (first | refine GD ?_ | refine NW fun _ => ?_)
    refine WL.step rfl (OP.callRO rfl rfl (jroom_ro j p J2 hrg2) (Ent.at (up_jrn _ _ _) MM) rfl rfl ?_)
    have hlen1 : (J2.held.length : Int) = (N : Int) - (J2.ring - J2.held.length) := by rw [hr2]; omega
    have hlr1 : J2.held.length ≤ 512 := by have := I2.len; have := I2.ring; omega
    repeat (first | refine GD ?_ | refine NW fun _ => ?_)
    refine WC.loop (σ := Nat) (fun i => i ≤ J2.held.length)
      (fun i => [(1, .val (.slice (some ⟨b, off, none⟩) n c)), (5, .val (.int .i64 N)), (6, .val (.pointer (some ⟨j, 0, none⟩))), (39, .val (.int .i64 n)), (40, .val (.int .i64 k)), (14, .val (.slice a4 J2.held.length cap4)), (154, .val (.int .i64 J2.held.length)), (155, .val (.int .i64 i))])
      (fun i => [ownS a4 J2.held.length cap4 34 5 (J2.held.flatMap (fun x => encR x.2)), jrn j p J2, dsk p D2, A]) (fun i => J2.held.length - i) 0 (Nat.zero_le _) ⟨rfl, rfl, rfl, rfl, rfl, rfl, rfl, rfl, trivial⟩ II ?_
    rintro i hi1
    by_cases hil : i < J2.held.length
    rotate_left
    · repeat (first | refine GD ?_ | refine NW fun _ => ?_)
      exact ⟨(k + 1, J2, D2, f2, B + 2), ⟨by dsimp only; omega, I2, by dsimp only; omega, hr2⟩, by dsimp only; omega, ⟨rfl, rfl, rfl, rfl, rfl, trivial⟩, II⟩
    have hsq := I2.seq i hil
    have hz : (J2.held[i]).2.1 = J2.next - J2.held.length + (i : Int) := by rw [hsq]; unfold Jrn.next; omega
    have hnb : 0 ≤ J2.next ∧ J2.next ≤ 4000000000000000000 := by have := I2.hdr; have := I2.bound; unfold Jrn.next; omega
    refine WC.fact (Ent.some (Ent.own (a := a4) (n := J2.held.length) (cap := cap4) (T := 34) (size := 5) (cs := J2.held.flatMap (fun x => encR x.2)) MM) (by omega)) ?_
    rintro ⟨b5, off5, rfl⟩
    repeat (first | refine GD ?_ | refine NW fun _ => ?_)
    refine RD 13 13 (_) ?_
    refine WP 0 ?_
    refine WP 1 ?_
    refine WP 2 ?_
    refine WP 3 ?_
    refine VL 4 (.int .i64 (J2.held[i]).2.1) rfl rfl rfl rfl (.inl ⟨rfl, Ent.elF (f := fun x : Held => encR x.2) (fun _ => rfl) (j := 0) (Ent.own (T := 34) MM) hil rfl rfl⟩) ?_
    refine WP 5 ?_
    refine WP 7 ?_
    refine WP 8 ?_
    refine WP 10 ?_
    refine WH.only 6 rfl rfl (by kernel_rfl) rfl (OP.callRO rfl rfl (jnext_ro j p J2 hrg2) (Ent.at (up_jrn _ _ _) MM) rfl rfl ⟨fun _ => II, ?_⟩)
    refine WP 9 ?_
    refine WP 11 ?_
    refine WP 12 ?_
    rw [decide_eq_true hz]
    refine DN ?_
    repeat (first | refine GD ?_ | refine NW fun _ => ?_)
    exact ⟨i + 1, by omega, by omega, ⟨rfl, rfl, rfl, rfl, rfl, rfl, rfl, rfl, trivial⟩, II⟩
end Go.Proofs.Yteednjcoapmkaaa
namespace Go.Proofs.Yteednjcoapmkaaa
open Go Go.GL Go.ChangeShapes Go.WideShapes Go.ChangeAt Go.RowKit
open Go.ChangeMaps (open_string shut_string)
set_option linter.unusedVariables false

theorem ownJournalCounts : ownKnob Try.prog.godebug = none := by kernel_rfl
theorem laidOutJournalCounts : laidOutB Try.prog = true := by kernel_rfl
set_option maxRecDepth 100000 in
theorem liftedJournalCounts (os : Os) (started : os.Started) (H : Type) (enc : TypeId × Value → H) :
    ReturnsInHanded {} Try.checked os 3 .any (Rows.journalCountsSpec.pre6 enc Try.prog Try.f3 Rows.journalCountsRow.domain false) (Rows.journalCountsSpec.post enc Try.prog Try.f3 false true false false) := by
  refine returnsInHanded_of_change (C := Try.checked) ownJournalCounts started (by kernel_rfl) Try.func3
    (ChangeSpec.witness6 (enc := enc) (C := Try.checked) false ⟨#[], #[.int .u8 0, .slice none 0 0], []⟩ 8 (by kernel_rfl) (by kernel_rfl) (by kernel_rfl) (by kernel_rfl)) ?_
  intro W base args ds gs before hval0 hW hcnd _
  have hval : ∀ (j : Nat) t v, Try.f3.params[j]? = some t → args[j]? = some v → Value.okWide Try.prog W .any base t v := hval0
  have hW' := hW
  obtain ⟨p, q, hA0, hV, rfl, hfz, hnd⟩ := hW
  have hA : DataW.TrodAll enc Try.prog W 0 (fun _ => true) true Try.f3.params.toList args.toList ds p := hA0
  rw [Try.params3] at hA hval
  obtain ⟨v0, vs0, d0, ds0, p0, q0, hargs, rfl, rfl, h0, r0⟩ := trodAll_cons hA
  obtain ⟨v1, vs1, d1, ds1, p1, q1, rfl, rfl, rfl, h1, r1⟩ := trodAll_cons r0
  obtain ⟨rfl, rfl, rfl⟩ := trodAll_nil r1
  obtain rfl : args = #[v0, v1] := by cases args; simp_all
  obtain ⟨rfl, rfl⟩ := trodVars_none hV
  have k0 := h0
  obtain ⟨z0, rfl, _, _, w0⟩ := open_int Try.underlying5 (hval 0 5 v0 rfl rfl) h0
  obtain ⟨a0, rfl⟩ := byte_of w0
  have k1 := h1
  obtain ⟨a1, len1, cap1, rw1, rfl, hr1, hc1, hm1, ho1, R1⟩ := open_row (n := 8) (l := [.int .i64, .int .i64, .int .i64, .int .i64, .int .i64, .str, .int .i64, .int .u64]) Try.underlying22 (by kernel_rfl) (by kernel_rfl) (hval 1 22 v1 rfl rfl) h1
  obtain ⟨l1, hl1, hn1, w1⟩ := rows_enc (fun x hx => jop_of (ho1 x hx))
  rw [hl1] at R1
  rw [hr1] at hn1
  clear hA0 hval0
  refine ((jcounts_ro a0 a1 len1 cap1 l1 hn1.symm (fun o ho => wf_i64 (w1 o ho).2.1)).calls W R1).mono fun e W' ⟨he, ext⟩ => ?_
  subst he
  exact ⟨_, rfl, _, _, _, [], _, [], hW', trodAll_mk1 (shut_bool Try.underlying4 _), (trodAll_cons_mk (GL.Ext.trod laidOutJournalCounts (by kernel_rfl) (of_decide_eq_true (by kernel_rfl)) k0 ext) (trodAll_cons_mk (GL.Ext.trod laidOutJournalCounts (by kernel_rfl) (of_decide_eq_true (by kernel_rfl)) k1 ext) trodAll_mk0)), rfl, ext.keptBut _, fun h => by cases h⟩
theorem overJournalCounts : Rows.journalCountsRow.holds Try.pinned (OpenSpec.ofChange Rows.journalCountsSpec) :=
  OpenClaim.holds_of_wide 3 Try.f3 rfl rfl rfl rfl rfl rfl rfl ⟨rfl, rfl, rfl, rfl, rfl⟩ rfl rfl rfl rfl rfl (by kernel_rfl) Try.func3 (by kernel_rfl)
    (of_decide_eq_true (by kernel_rfl)) (by unfold Func.isWrapper; first | (rw [if_pos (by decide +kernel)]; kernel_rfl) | (rw [if_neg (by decide +kernel)]; exact ⟨rfl, rfl⟩))
    (fun os started H enc _ => liftedJournalCounts os started H enc)
theorem journalCounts_holds : Rows.JournalCountsSaid := overJournalCounts
end Go.Proofs.Yteednjcoapmkaaa
