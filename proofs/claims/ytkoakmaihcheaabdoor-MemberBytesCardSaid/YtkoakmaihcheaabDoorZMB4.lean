/-
  The law MemberBytes holds: whatever the input, the Go function returns true, and each argument reads as it did. Conditions: none beyond the statement's own.
-/
import Derived.Test.YtkoakmaihcheaabDoorZMB2
import Derived.Test.YtkoakmaihcheaabDoorZMB3
import Derived.Test.YtkoakmaihcheaabDoorZMB1
import Derived.Test.YtkoakmaihcheaabDoorRows
import Derived.Test.YtkoakmaihcheaabDoorTie
import Derived.Test.YtkoakmaihcheaabDoorCards
import Derived.ChangeSame
import Derived.ChangeVars
import Derived.JoinedOf
import Derived.RowKit
import Derived.RowKitTokens
import Derived.LaidLaws
import Derived.LaidHandle
import Derived.Stop.Joined
import Derived.SevenTiedAt
/- Contracts of functions of the given program, and plain laws on what they compute: parts of the proofs of laws. -/

namespace Go.Proofs.YtkoakmaihcheaabDoor
open Go Go.GL

theorem putM_ne {f : List Bool} {ch : List Ch} {c : Ch} {x : Int} (h : putM f ch c = some x) : x ≠ 0 := by
  unfold putM at h
  split at h
  · cases h; decide
  split at h
  · cases h; decide
  split at h
  · cases h; decide
  split at h
  · cases h; decide
  split at h
  · cases h; decide
  · cases h
theorem putCh_app {f : List Bool} {ch : List Ch} {c : Ch} (h : putM f ch c = none) : putCh f ch c = ch ++ [c] := by unfold putCh; rw [h]
theorem newM_ne {l : List Int} : ∀ {f : List Bool} {at_ c : Int}, newM l f = .error (at_, c) → c ≠ 0 := by
  induction l with
  | nil => intro f a c h; cases h
  | cons v r ih =>
    intro f a c h
    rw [newM_cons] at h
    split at h
    · split at h
      · cases h; decide
      · exact ih h
    · cases h; decide
set_option maxHeartbeats 8000000 in
set_option maxRecDepth 10000 in
theorem plays_ro (a b : Option Addr) (n c m c2 : Nat) (l : List Int) (ops : List Op3) (mark : Int) :
    RO G 5 [.slice a n c, .slice b m c2, .int .i64 mark] (fun h => ErrT h ∧ readS a n 1 (l.map vI) h ∧ readS b m 3 (encOs ops) h) (.bool true) := by
  refine RO.enter Tryd.func5 rfl (by decide) rfl Tryd.ntmps5 rfl (fun A hu hA => ?_) (up_and up_ErrT (up_and (up_readS _ _ _ _) (up_readS _ _ _ _)))
  have hER : ∀ {L}, A ∈ L → Ent L ErrT := fun m => Ent.mem m hu fun k x => (hA k x).1
  have hE1 : ∀ {L}, A ∈ L → Ent L (readS a n 1 (l.map vI)) := fun m => Ent.mem m hu fun k x => (hA k x).2.1
  have hE2 : ∀ {L}, A ∈ L → Ent L (readS b m 3 (encOs ops)) := fun m => Ent.mem m hu fun k x => (hA k x).2.2
  refine WC.fact (Ent.len (hE2 MM)) (fun hlen => ?_)
  have hm : m = ops.length := by
    have : (encOs ops).length = ops.length * 3 := GL.flat_len (f := encO) (z := 3) (fun _ => rfl) ops
    omega
  repeat (first | refine GO ?_ | refine NW fun _ => ?_)
  refine WL.step rfl (OP.callRO rfl rfl awake_ro (fun _ _ => trivial) rfl rfl ?_)
  by_cases h20 : 20 < n
  · repeat (first | refine GD ?_ | refine NW fun _ => ?_)
    refine WL.step rfl (OP.callRO rfl rfl awake_ro (fun _ _ => trivial) rfl rfl ?_)
    repeat (first | refine GO ?_ | refine NW fun _ => ?_)
    exact ret1 rfl ⟨rfl, MM⟩
  by_cases h200 : 200 < m
  · repeat (first | refine GD ?_ | refine NW fun _ => ?_)
    refine WL.step rfl (OP.callRO rfl rfl awake_ro (fun _ _ => trivial) rfl rfl ?_)
    repeat (first | refine GO ?_ | refine NW fun _ => ?_)
    exact ret1 rfl ⟨rfl, MM⟩
  repeat (first | refine GD ?_ | refine NW fun _ => ?_)
  refine WL.step rfl (OP.callRT rfl rfl (new_ok a n c l (by omega)) (hE1 MM) rfl rfl ?_)
  rintro v E hE
  unfold NewPost at hE
  split at hE
  rotate_left
  · rename_i at1 c1 hn1
    obtain ⟨e, rfl, b', rfl, rfl⟩ := hE
    have hcn := newM_ne hn1
    repeat (first | refine GO ?_ | refine NW fun _ => ?_)
    refine WL.step rfl (OP.callRT rfl rfl (qnew_ok a n c l (by omega)) (hE1 MM) rfl rfl ?_)
    rintro v E hE
    unfold QNewPost at hE
    rw [hn1] at hE
    obtain ⟨rfl, rfl⟩ := hE
    repeat (first | refine GO ?_ | refine NW fun _ => ?_)
    refine WL.step rfl (OP.callRO rfl rfl (place_fault b' at1 c1 at1 c1 hcn) (Ent.and (hER MM) (Ent.whole (c := faultCells member at1 c1) (T := 87) MM)) rfl rfl ?_)
    rw [decide_eq_true ⟨rfl, rfl⟩]
    repeat (first | refine GD ?_ | refine NW fun _ => ?_)
    exact ret1 rfl ⟨rfl, MM⟩
  rename_i f hf
  obtain ⟨p, rfl, rfl⟩ := hE
  have hfl : f.length = 4 := newM_length hf
  repeat (first | refine GO ?_ | refine NW fun _ => ?_)
  refine WL.step rfl (OP.callRT rfl rfl (qnew_ok a n c l (by omega)) (hE1 MM) rfl rfl ?_)
  rintro v E hE
  unfold QNewPost at hE
  rw [hf] at hE
  obtain ⟨q, rfl, rfl⟩ := hE
  repeat (first | refine GO ?_ | refine NW fun _ => ?_)
  refine WL.step rfl (OP.callRO rfl rfl (place_nil 0 0) (fun _ _ => trivial) rfl rfl ?_)
  rw [decide_eq_true rfl]
  repeat (first | refine GD ?_ | refine NW fun _ => ?_)
  refine WC.imp (Imp.nilS 75 3) ?_
  refine WC.imp (Imp.nilS 94 3) ?_
  have hR : ∀ {L} {a1 cap1} {ch}, blk p (bools f ++ [.slice a1 ch.length cap1]) 69 ∈ L → ownS a1 ch.length cap1 75 3 (encL ch) ∈ L → Ent L (grpR p a1 cap1 f ch) := fun m1 m2 => Ent.and (Ent.whole m1) (Ent.own m2)
  have hQ : ∀ {L} {a1 cap1} {ch}, blk q (ints4 f ++ [.slice a1 ch.length cap1]) 91 ∈ L → ownS a1 ch.length cap1 94 3 (encL ch) ∈ L → Ent L (refR q a1 cap1 f ch) := fun m1 m2 => Ent.and (Ent.whole m1) (Ent.own m2)
  refine WC.loop (σ := Nat × List Ch × Option Addr × Nat × Option Addr × Nat) (fun s => s.1 ≤ m ∧ Inc s.2.1 ∧ Vols s.2.1 ∧ s.2.1.length ≤ 100)
    (fun s => [(1, .val (.slice b m c2)), (2, .val (.int .i64 mark)), (7, .val (.pointer (some ⟨p, 0, none⟩))), (9, .val (.pointer (some ⟨q, 0, none⟩))), (53, .val (.int .i64 m)), (54, .val (.int .i64 s.1))])
    (fun s => grpL p s.2.2.1 s.2.1.length s.2.2.2.1 f s.2.1 ++ refL q s.2.2.2.2.1 s.2.1.length s.2.2.2.2.2 f s.2.1 ++ [A]) (fun s => m - s.1) (0, [], none, 0, none, 0)
    ⟨Nat.zero_le _, .nil, (by intro x hx; cases hx), by decide⟩ ⟨rfl, rfl, rfl, rfl, rfl, rfl, trivial⟩ II ?_
  rintro ⟨k, ch, a1, cap1, a2, cap2⟩ ⟨hk, hi, hv, hs⟩
  dsimp only at hk hi hv hs ⊢
  refine WC.fact (Ent.ownLe (a := a1) (n := ch.length) (cap := cap1) (T := 75) (size := 3) (cs := encL ch) MM) (fun hc => ?_)
  by_cases hlt : k < m
  rotate_left
  · have hgb := gbytes_ok p a1 cap1 f ch hfl hv hs
    have hqb := qgbytes_ro q a2 cap2 f ch hfl hv hs
    generalize bytesM f ch = bl at *
    repeat (first | refine GD ?_ | refine NW fun _ => ?_)
    refine RD 7 7 (_) ?_
    refine VV 0 ?_
    refine VV 3 ?_
    refine WH.only 1 rfl rfl (by kernel_rfl) rfl (OP.callRT rfl rfl hgb (hR MM MM) rfl rfl (fun v E hE' => ?_))
    obtain ⟨a4, cap4, rfl, rfl⟩ := hE'
    refine ⟨fun _ => II, ?_⟩
    refine WH.more _ II (Imp.refl _) ?_
    refine VQ 2 rfl (Quiet.toStr (sv := ba bl) rfl rfl rfl rfl rfl rfl rfl rfl (by rw [strCells_ba]; exact Ent.own (T := 5) MM)) ?_
    refine WH.only 4 rfl rfl (by kernel_rfl) rfl (OP.callRO rfl rfl (hqb) (hQ MM MM) rfl rfl ⟨fun _ => II, ?_⟩)
    refine VV 5 ?_
    rw [decide_eq_true rfl]
    refine VV 6 ?_
    refine DN ?_
    repeat (first | refine GD ?_ | refine NW fun _ => ?_)
    exact ret1 rfl ⟨rfl, MM⟩
  refine WC.fact (Ent.some (hE2 MM) (by omega)) ?_
  rintro ⟨bo, off, rfl⟩
  have hlk : k < ops.length := by omega
  have hlo : ∀ {L}, A ∈ L → Ent L (cellsAt bo (off + k * 3) (encO ops[k])) := fun m => GL.Ent.elA (f := encO) (z := 3) (fun _ => rfl) (hE2 m) hlk
  generalize ops[k] = o at *
  obtain ⟨ok, ov, om⟩ := o
  repeat (first | refine GD ?_ | refine NW fun _ => ?_)
  refine WL.step rfl (OP.loadA rfl rfl rfl rfl (hlo MM) rfl rfl rfl ?_)
  by_cases h1 : ok = 1
  · subst h1
    obtain ⟨c0, hc0⟩ : ∃ c0 : Ch, c0 = (om, ov, false) := ⟨_, rfl⟩
    repeat (first | refine GD ?_ | refine NW fun _ => ?_)
    rename_i bx
    cases hp : putM f ch c0 with
    | some code =>
      subst hc0
      refine RD 16 16 ([blk bx (encO (1, ov, om)) 53]) ?_
      refine VV 0 ?_
      refine VV 1 ?_
      refine VV 2 ?_
      refine VV 3 ?_
      refine VV 4 ?_
      refine VV 6 ?_
      refine VV 7 ?_
      refine VV 8 ?_
      refine VV 9 ?_
      refine VV 10 ?_
      refine VV 11 ?_
      refine VV 12 ?_
      refine WH.only 5 rfl rfl (by kernel_rfl) rfl (OP.call (pre := grpL p a1 ch.length cap1 f ch) rfl rfl (add_ok p a1 cap1 f ch ov om hfl hv hs) PS rfl rfl (fun v M hM => ?_))
      unfold PutPost at hM
      rw [hp] at hM
      obtain ⟨E, ⟨b', rfl, rfl⟩, rfl⟩ := hM
      refine ⟨fun _ => II, ?_⟩
      refine WH.only 13 rfl rfl (by kernel_rfl) rfl (OP.call (pre := refL q a2 ch.length cap2 f ch) rfl rfl (qchange_ok q a2 cap2 f ch ov om false hfl hi hv hs) PS rfl rfl (fun v M hM => ?_))
      unfold QChPost at hM
      rw [hp] at hM
      obtain ⟨rfl, rfl⟩ := hM
      refine ⟨fun _ => II, ?_⟩
      refine WH.only 14 rfl rfl (by kernel_rfl) rfl (OP.callRO rfl rfl (place_fault b' ov code ov code (putM_ne hp)) (Ent.and (hER MM) (Ent.whole (c := faultCells member ov code) (T := 87) MM)) rfl rfl ⟨fun _ => II, ?_⟩)
      rw [decide_eq_true ⟨rfl, rfl⟩]
      refine VV 15 ?_
      refine DN ?_
      repeat (first | refine GD ?_ | refine NW fun _ => ?_)
      refine WL.fact (Ent.ownLe (a := a1) (n := ch.length) (cap := cap1) (T := 75) (size := 3) (cs := encL ch) MM) (fun hc' => ?_)
      have hla := listM_len (atM mark f ch)
      have hlb := listM_len (after f ch)
      rw [atM_length] at hla
      rw [after_length] at hlb
      have hat := at_ok p a1 cap1 f ch mark hfl hv hc' (by omega)
      have hqat := qat_ok q a2 cap2 f ch mark hfl (by omega)
      have hqal := qat_ok q a2 cap2 f ch (lastM ch) hfl (by omega)
      have hnow := now_ok p a1 cap1 f ch hfl hv hc' (by omega)
      rw [listQ_at hi hv hfl] at hqat hqal
      rw [atM_high hi.srt (Int.le_refl _)] at hqal
      unfold atM at hqat hla
      generalize listM (after f (ch.take (cnt mark ch))) = lA at *
      generalize listM (after f ch) = lB at *
      have hsA := fun x y z w => same_ro x y lA.length z lA.length w lA lA rfl rfl (by omega) (by omega)
      have hsB := fun x y z w => same_ro x y lB.length z lB.length w lB lB rfl rfl (by omega) (by omega)
      have hl1 := last_ro p a1 cap1 f ch hfl (by omega)
      have hl2 := qlast_ro q a2 cap2 f ch hfl (by omega)
      generalize lastM ch = lm at *
      repeat (first | refine GD ?_ | refine NW fun _ => ?_)
      refine WL.step rfl (OP.callRO rfl rfl hl1 (hR MM MM) rfl rfl ?_)
      repeat (first | refine GD ?_ | refine NW fun _ => ?_)
      refine WL.step rfl (OP.callRO rfl rfl hl2 (hQ MM MM) rfl rfl ?_)
      repeat (first | refine GD ?_ | refine NW fun _ => ?_)
      refine WL.guardT rfl rfl rfl rfl (OP.callRT rfl rfl hat (hR MM MM) rfl rfl ?_)
      rintro v E ⟨a5, c5, rfl, rfl⟩
      repeat (first | refine GD ?_ | refine NW fun _ => ?_)
      refine WL.guardT rfl rfl rfl rfl (OP.callRT rfl rfl hqat (hQ MM MM) rfl rfl ?_)
      rintro v E ⟨a6, c6, rfl, rfl⟩
      repeat (first | refine GD ?_ | refine NW fun _ => ?_)
      refine WL.guardT rfl rfl rfl rfl (OP.callRO rfl rfl (hsA _ _ _ _) (Ent.and (Ent.own MM) (Ent.own MM)) rfl rfl ?_)
      rw [decide_eq_true rfl]
      repeat (first | refine GD ?_ | refine NW fun _ => ?_)
      refine WL.guardT rfl rfl rfl rfl (OP.callRT rfl rfl hnow (hR MM MM) rfl rfl ?_)
      rintro v E ⟨a7, c7, rfl, rfl⟩
      repeat (first | refine GD ?_ | refine NW fun _ => ?_)
      refine WL.guardT rfl rfl rfl rfl (OP.callRO rfl rfl hl2 (hQ MM MM) rfl rfl ?_)
      repeat (first | refine GD ?_ | refine NW fun _ => ?_)
      refine WL.guardT rfl rfl rfl rfl (OP.callRT rfl rfl hqal (hQ MM MM) rfl rfl ?_)
      rintro v E ⟨a8, c8, rfl, rfl⟩
      repeat (first | refine GD ?_ | refine NW fun _ => ?_)
      refine WL.guardT rfl rfl rfl rfl (OP.callRO rfl rfl (hsB _ _ _ _) (Ent.and (Ent.own MM) (Ent.own MM)) rfl rfl ?_)
      rw [decide_eq_true rfl]
      repeat (first | refine GD ?_ | refine NW fun _ => ?_)
      exact ⟨(k + 1, ch, a1, cap1, a2, cap2), ⟨by dsimp only; omega, hi, hv, hs⟩, by dsimp only; omega, ⟨rfl, rfl, rfl, rfl, rfl, rfl, trivial⟩, II⟩
    | none =>
      have hpc := putCh_app hp
      have hin := putCh_inv (f := f) (c := c0) hv hs
      have hii := inc_put (f := f) (c := c0) hi
      rw [hpc] at hin hii
      refine RD 16 16 ([blk bx (encO (1, ov, om)) 53]) ?_
      refine VV 0 ?_
      refine VV 1 ?_
      refine VV 2 ?_
      refine VV 3 ?_
      refine VV 4 ?_
      refine VV 6 ?_
      refine VV 7 ?_
      refine VV 8 ?_
      refine VV 9 ?_
      refine VV 10 ?_
      refine VV 11 ?_
      refine VV 12 ?_
      refine WH.only 5 rfl rfl (by kernel_rfl) rfl (OP.call (pre := grpL p a1 ch.length cap1 f ch) rfl rfl (add_ok p a1 cap1 f ch ov om hfl hv hs) PS rfl rfl (fun v M hM => ?_))
      unfold PutPost at hM
      rw [← hc0, hp] at hM
      obtain ⟨rfl, a1, cap1, rfl⟩ := hM
      refine ⟨fun _ => II, ?_⟩
      refine WH.only 13 rfl rfl (by kernel_rfl) rfl (OP.call (pre := refL q a2 ch.length cap2 f ch) rfl rfl (qchange_ok q a2 cap2 f ch ov om false hfl hi hv hs) PS rfl rfl (fun v M hM => ?_))
      unfold QChPost at hM
      rw [← hc0, hp] at hM
      obtain ⟨rfl, a2, cap2, rfl⟩ := hM
      refine ⟨fun _ => II, ?_⟩
      refine WH.only 14 rfl rfl (by kernel_rfl) rfl (OP.callRO rfl rfl (place_nil ov 0) (fun _ _ => trivial) rfl rfl ⟨fun _ => II, ?_⟩)
      rw [decide_eq_true rfl]
      refine VV 15 ?_
      refine DN ?_
      have hch' : (ch ++ [c0]).length = ch.length + 1 := by rw [List.length_append, List.length_singleton]
      rw [← hch']
      generalize ch ++ [c0] = ch at *
      obtain ⟨hv, hs⟩ := hin
      have hi := hii
      repeat (first | refine GD ?_ | refine NW fun _ => ?_)
      refine WL.fact (Ent.ownLe (a := a1) (n := ch.length) (cap := cap1) (T := 75) (size := 3) (cs := encL ch) MM) (fun hc' => ?_)
      have hla := listM_len (atM mark f ch)
      have hlb := listM_len (after f ch)
      rw [atM_length] at hla
      rw [after_length] at hlb
      have hat := at_ok p a1 cap1 f ch mark hfl hv hc' (by omega)
      have hqat := qat_ok q a2 cap2 f ch mark hfl (by omega)
      have hqal := qat_ok q a2 cap2 f ch (lastM ch) hfl (by omega)
      have hnow := now_ok p a1 cap1 f ch hfl hv hc' (by omega)
      rw [listQ_at hi hv hfl] at hqat hqal
      rw [atM_high hi.srt (Int.le_refl _)] at hqal
      unfold atM at hqat hla
      generalize listM (after f (ch.take (cnt mark ch))) = lA at *
      generalize listM (after f ch) = lB at *
      have hsA := fun x y z w => same_ro x y lA.length z lA.length w lA lA rfl rfl (by omega) (by omega)
      have hsB := fun x y z w => same_ro x y lB.length z lB.length w lB lB rfl rfl (by omega) (by omega)
      have hl1 := last_ro p a1 cap1 f ch hfl (by omega)
      have hl2 := qlast_ro q a2 cap2 f ch hfl (by omega)
      generalize lastM ch = lm at *
      repeat (first | refine GD ?_ | refine NW fun _ => ?_)
      refine WL.step rfl (OP.callRO rfl rfl hl1 (hR MM MM) rfl rfl ?_)
      repeat (first | refine GD ?_ | refine NW fun _ => ?_)
      refine WL.step rfl (OP.callRO rfl rfl hl2 (hQ MM MM) rfl rfl ?_)
      repeat (first | refine GD ?_ | refine NW fun _ => ?_)
      refine WL.guardT rfl rfl rfl rfl (OP.callRT rfl rfl hat (hR MM MM) rfl rfl ?_)
      rintro v E ⟨a5, c5, rfl, rfl⟩
      repeat (first | refine GD ?_ | refine NW fun _ => ?_)
      refine WL.guardT rfl rfl rfl rfl (OP.callRT rfl rfl hqat (hQ MM MM) rfl rfl ?_)
      rintro v E ⟨a6, c6, rfl, rfl⟩
      repeat (first | refine GD ?_ | refine NW fun _ => ?_)
      refine WL.guardT rfl rfl rfl rfl (OP.callRO rfl rfl (hsA _ _ _ _) (Ent.and (Ent.own MM) (Ent.own MM)) rfl rfl ?_)
      rw [decide_eq_true rfl]
      repeat (first | refine GD ?_ | refine NW fun _ => ?_)
      refine WL.guardT rfl rfl rfl rfl (OP.callRT rfl rfl hnow (hR MM MM) rfl rfl ?_)
      rintro v E ⟨a7, c7, rfl, rfl⟩
      repeat (first | refine GD ?_ | refine NW fun _ => ?_)
      refine WL.guardT rfl rfl rfl rfl (OP.callRO rfl rfl hl2 (hQ MM MM) rfl rfl ?_)
      repeat (first | refine GD ?_ | refine NW fun _ => ?_)
      refine WL.guardT rfl rfl rfl rfl (OP.callRT rfl rfl hqal (hQ MM MM) rfl rfl ?_)
      rintro v E ⟨a8, c8, rfl, rfl⟩
      repeat (first | refine GD ?_ | refine NW fun _ => ?_)
      refine WL.guardT rfl rfl rfl rfl (OP.callRO rfl rfl (hsB _ _ _ _) (Ent.and (Ent.own MM) (Ent.own MM)) rfl rfl ?_)
      rw [decide_eq_true rfl]
      repeat (first | refine GD ?_ | refine NW fun _ => ?_)
      exact ⟨(k + 1, ch, a1, cap1, a2, cap2), ⟨by dsimp only; omega, hi, hv, hs⟩, by dsimp only; omega, ⟨rfl, rfl, rfl, rfl, rfl, rfl, trivial⟩, II⟩
  by_cases h2 : ok = 2
  · subst h2
    obtain ⟨c0, hc0⟩ : ∃ c0 : Ch, c0 = (om, ov, true) := ⟨_, rfl⟩
    repeat (first | refine GD ?_ | refine NW fun _ => ?_)
    rename_i bx
    cases hp : putM f ch c0 with
    | some code =>
      subst hc0
      refine RD 16 16 ([blk bx (encO (2, ov, om)) 53]) ?_
      refine VV 0 ?_
      refine VV 1 ?_
      refine VV 2 ?_
      refine VV 3 ?_
      refine VV 4 ?_
      refine VV 6 ?_
      refine VV 7 ?_
      refine VV 8 ?_
      refine VV 9 ?_
      refine VV 10 ?_
      refine VV 11 ?_
      refine VV 12 ?_
      refine WH.only 5 rfl rfl (by kernel_rfl) rfl (OP.call (pre := grpL p a1 ch.length cap1 f ch) rfl rfl (remove_ok p a1 cap1 f ch ov om hfl hv hs) PS rfl rfl (fun v M hM => ?_))
      unfold PutPost at hM
      rw [hp] at hM
      obtain ⟨E, ⟨b', rfl, rfl⟩, rfl⟩ := hM
      refine ⟨fun _ => II, ?_⟩
      refine WH.only 13 rfl rfl (by kernel_rfl) rfl (OP.call (pre := refL q a2 ch.length cap2 f ch) rfl rfl (qchange_ok q a2 cap2 f ch ov om true hfl hi hv hs) PS rfl rfl (fun v M hM => ?_))
      unfold QChPost at hM
      rw [hp] at hM
      obtain ⟨rfl, rfl⟩ := hM
      refine ⟨fun _ => II, ?_⟩
      refine WH.only 14 rfl rfl (by kernel_rfl) rfl (OP.callRO rfl rfl (place_fault b' ov code ov code (putM_ne hp)) (Ent.and (hER MM) (Ent.whole (c := faultCells member ov code) (T := 87) MM)) rfl rfl ⟨fun _ => II, ?_⟩)
      rw [decide_eq_true ⟨rfl, rfl⟩]
      refine VV 15 ?_
      refine DN ?_
      repeat (first | refine GD ?_ | refine NW fun _ => ?_)
      refine WL.fact (Ent.ownLe (a := a1) (n := ch.length) (cap := cap1) (T := 75) (size := 3) (cs := encL ch) MM) (fun hc' => ?_)
      have hla := listM_len (atM mark f ch)
      have hlb := listM_len (after f ch)
      rw [atM_length] at hla
      rw [after_length] at hlb
      have hat := at_ok p a1 cap1 f ch mark hfl hv hc' (by omega)
      have hqat := qat_ok q a2 cap2 f ch mark hfl (by omega)
      have hqal := qat_ok q a2 cap2 f ch (lastM ch) hfl (by omega)
      have hnow := now_ok p a1 cap1 f ch hfl hv hc' (by omega)
      rw [listQ_at hi hv hfl] at hqat hqal
      rw [atM_high hi.srt (Int.le_refl _)] at hqal
      unfold atM at hqat hla
      generalize listM (after f (ch.take (cnt mark ch))) = lA at *
      generalize listM (after f ch) = lB at *
      have hsA := fun x y z w => same_ro x y lA.length z lA.length w lA lA rfl rfl (by omega) (by omega)
      have hsB := fun x y z w => same_ro x y lB.length z lB.length w lB lB rfl rfl (by omega) (by omega)
      have hl1 := last_ro p a1 cap1 f ch hfl (by omega)
      have hl2 := qlast_ro q a2 cap2 f ch hfl (by omega)
      generalize lastM ch = lm at *
      repeat (first | refine GD ?_ | refine NW fun _ => ?_)
      refine WL.step rfl (OP.callRO rfl rfl hl1 (hR MM MM) rfl rfl ?_)
      repeat (first | refine GD ?_ | refine NW fun _ => ?_)
      refine WL.step rfl (OP.callRO rfl rfl hl2 (hQ MM MM) rfl rfl ?_)
      repeat (first | refine GD ?_ | refine NW fun _ => ?_)
      refine WL.guardT rfl rfl rfl rfl (OP.callRT rfl rfl hat (hR MM MM) rfl rfl ?_)
      rintro v E ⟨a5, c5, rfl, rfl⟩
      repeat (first | refine GD ?_ | refine NW fun _ => ?_)
      refine WL.guardT rfl rfl rfl rfl (OP.callRT rfl rfl hqat (hQ MM MM) rfl rfl ?_)
      rintro v E ⟨a6, c6, rfl, rfl⟩
      repeat (first | refine GD ?_ | refine NW fun _ => ?_)
      refine WL.guardT rfl rfl rfl rfl (OP.callRO rfl rfl (hsA _ _ _ _) (Ent.and (Ent.own MM) (Ent.own MM)) rfl rfl ?_)
      rw [decide_eq_true rfl]
      repeat (first | refine GD ?_ | refine NW fun _ => ?_)
      refine WL.guardT rfl rfl rfl rfl (OP.callRT rfl rfl hnow (hR MM MM) rfl rfl ?_)
      rintro v E ⟨a7, c7, rfl, rfl⟩
      repeat (first | refine GD ?_ | refine NW fun _ => ?_)
      refine WL.guardT rfl rfl rfl rfl (OP.callRO rfl rfl hl2 (hQ MM MM) rfl rfl ?_)
      repeat (first | refine GD ?_ | refine NW fun _ => ?_)
      refine WL.guardT rfl rfl rfl rfl (OP.callRT rfl rfl hqal (hQ MM MM) rfl rfl ?_)
      rintro v E ⟨a8, c8, rfl, rfl⟩
      repeat (first | refine GD ?_ | refine NW fun _ => ?_)
      refine WL.guardT rfl rfl rfl rfl (OP.callRO rfl rfl (hsB _ _ _ _) (Ent.and (Ent.own MM) (Ent.own MM)) rfl rfl ?_)
      rw [decide_eq_true rfl]
      repeat (first | refine GD ?_ | refine NW fun _ => ?_)
      exact ⟨(k + 1, ch, a1, cap1, a2, cap2), ⟨by dsimp only; omega, hi, hv, hs⟩, by dsimp only; omega, ⟨rfl, rfl, rfl, rfl, rfl, rfl, trivial⟩, II⟩
    | none =>
      have hpc := putCh_app hp
      have hin := putCh_inv (f := f) (c := c0) hv hs
      have hii := inc_put (f := f) (c := c0) hi
      rw [hpc] at hin hii
      refine RD 16 16 ([blk bx (encO (2, ov, om)) 53]) ?_
      refine VV 0 ?_
      refine VV 1 ?_
      refine VV 2 ?_
      refine VV 3 ?_
      refine VV 4 ?_
      refine VV 6 ?_
      refine VV 7 ?_
      refine VV 8 ?_
      refine VV 9 ?_
      refine VV 10 ?_
      refine VV 11 ?_
      refine VV 12 ?_
      refine WH.only 5 rfl rfl (by kernel_rfl) rfl (OP.call (pre := grpL p a1 ch.length cap1 f ch) rfl rfl (remove_ok p a1 cap1 f ch ov om hfl hv hs) PS rfl rfl (fun v M hM => ?_))
      unfold PutPost at hM
      rw [← hc0, hp] at hM
      obtain ⟨rfl, a1, cap1, rfl⟩ := hM
      refine ⟨fun _ => II, ?_⟩
      refine WH.only 13 rfl rfl (by kernel_rfl) rfl (OP.call (pre := refL q a2 ch.length cap2 f ch) rfl rfl (qchange_ok q a2 cap2 f ch ov om true hfl hi hv hs) PS rfl rfl (fun v M hM => ?_))
      unfold QChPost at hM
      rw [← hc0, hp] at hM
      obtain ⟨rfl, a2, cap2, rfl⟩ := hM
      refine ⟨fun _ => II, ?_⟩
      refine WH.only 14 rfl rfl (by kernel_rfl) rfl (OP.callRO rfl rfl (place_nil ov 0) (fun _ _ => trivial) rfl rfl ⟨fun _ => II, ?_⟩)
      rw [decide_eq_true rfl]
      refine VV 15 ?_
      refine DN ?_
      have hch' : (ch ++ [c0]).length = ch.length + 1 := by rw [List.length_append, List.length_singleton]
      rw [← hch']
      generalize ch ++ [c0] = ch at *
      obtain ⟨hv, hs⟩ := hin
      have hi := hii
      repeat (first | refine GD ?_ | refine NW fun _ => ?_)
      refine WL.fact (Ent.ownLe (a := a1) (n := ch.length) (cap := cap1) (T := 75) (size := 3) (cs := encL ch) MM) (fun hc' => ?_)
      have hla := listM_len (atM mark f ch)
      have hlb := listM_len (after f ch)
      rw [atM_length] at hla
      rw [after_length] at hlb
      have hat := at_ok p a1 cap1 f ch mark hfl hv hc' (by omega)
      have hqat := qat_ok q a2 cap2 f ch mark hfl (by omega)
      have hqal := qat_ok q a2 cap2 f ch (lastM ch) hfl (by omega)
      have hnow := now_ok p a1 cap1 f ch hfl hv hc' (by omega)
      rw [listQ_at hi hv hfl] at hqat hqal
      rw [atM_high hi.srt (Int.le_refl _)] at hqal
      unfold atM at hqat hla
      generalize listM (after f (ch.take (cnt mark ch))) = lA at *
      generalize listM (after f ch) = lB at *
      have hsA := fun x y z w => same_ro x y lA.length z lA.length w lA lA rfl rfl (by omega) (by omega)
      have hsB := fun x y z w => same_ro x y lB.length z lB.length w lB lB rfl rfl (by omega) (by omega)
      have hl1 := last_ro p a1 cap1 f ch hfl (by omega)
      have hl2 := qlast_ro q a2 cap2 f ch hfl (by omega)
      generalize lastM ch = lm at *
      repeat (first | refine GD ?_ | refine NW fun _ => ?_)
      refine WL.step rfl (OP.callRO rfl rfl hl1 (hR MM MM) rfl rfl ?_)
      repeat (first | refine GD ?_ | refine NW fun _ => ?_)
      refine WL.step rfl (OP.callRO rfl rfl hl2 (hQ MM MM) rfl rfl ?_)
      repeat (first | refine GD ?_ | refine NW fun _ => ?_)
      refine WL.guardT rfl rfl rfl rfl (OP.callRT rfl rfl hat (hR MM MM) rfl rfl ?_)
      rintro v E ⟨a5, c5, rfl, rfl⟩
      repeat (first | refine GD ?_ | refine NW fun _ => ?_)
      refine WL.guardT rfl rfl rfl rfl (OP.callRT rfl rfl hqat (hQ MM MM) rfl rfl ?_)
      rintro v E ⟨a6, c6, rfl, rfl⟩
      repeat (first | refine GD ?_ | refine NW fun _ => ?_)
      refine WL.guardT rfl rfl rfl rfl (OP.callRO rfl rfl (hsA _ _ _ _) (Ent.and (Ent.own MM) (Ent.own MM)) rfl rfl ?_)
      rw [decide_eq_true rfl]
      repeat (first | refine GD ?_ | refine NW fun _ => ?_)
      refine WL.guardT rfl rfl rfl rfl (OP.callRT rfl rfl hnow (hR MM MM) rfl rfl ?_)
      rintro v E ⟨a7, c7, rfl, rfl⟩
      repeat (first | refine GD ?_ | refine NW fun _ => ?_)
      refine WL.guardT rfl rfl rfl rfl (OP.callRO rfl rfl hl2 (hQ MM MM) rfl rfl ?_)
      repeat (first | refine GD ?_ | refine NW fun _ => ?_)
      refine WL.guardT rfl rfl rfl rfl (OP.callRT rfl rfl hqal (hQ MM MM) rfl rfl ?_)
      rintro v E ⟨a8, c8, rfl, rfl⟩
      repeat (first | refine GD ?_ | refine NW fun _ => ?_)
      refine WL.guardT rfl rfl rfl rfl (OP.callRO rfl rfl (hsB _ _ _ _) (Ent.and (Ent.own MM) (Ent.own MM)) rfl rfl ?_)
      rw [decide_eq_true rfl]
      repeat (first | refine GD ?_ | refine NW fun _ => ?_)
      exact ⟨(k + 1, ch, a1, cap1, a2, cap2), ⟨by dsimp only; omega, hi, hv, hs⟩, by dsimp only; omega, ⟨rfl, rfl, rfl, rfl, rfl, rfl, trivial⟩, II⟩
  repeat (first | refine GD ?_ | refine NW fun _ => ?_)
  refine WL.fact (Ent.ownLe (a := a1) (n := ch.length) (cap := cap1) (T := 75) (size := 3) (cs := encL ch) MM) (fun hc' => ?_)
  have hla := listM_len (atM mark f ch)
  have hlb := listM_len (after f ch)
  rw [atM_length] at hla
  rw [after_length] at hlb
  have hat := at_ok p a1 cap1 f ch mark hfl hv hc' (by omega)
  have hqat := qat_ok q a2 cap2 f ch mark hfl (by omega)
  have hqal := qat_ok q a2 cap2 f ch (lastM ch) hfl (by omega)
  have hnow := now_ok p a1 cap1 f ch hfl hv hc' (by omega)
  rw [listQ_at hi hv hfl] at hqat hqal
  rw [atM_high hi.srt (Int.le_refl _)] at hqal
  unfold atM at hqat hla
  generalize listM (after f (ch.take (cnt mark ch))) = lA at *
  generalize listM (after f ch) = lB at *
  have hsA := fun x y z w => same_ro x y lA.length z lA.length w lA lA rfl rfl (by omega) (by omega)
  have hsB := fun x y z w => same_ro x y lB.length z lB.length w lB lB rfl rfl (by omega) (by omega)
  have hl1 := last_ro p a1 cap1 f ch hfl (by omega)
  have hl2 := qlast_ro q a2 cap2 f ch hfl (by omega)
  generalize lastM ch = lm at *
  repeat (first | refine GD ?_ | refine NW fun _ => ?_)
  refine WL.step rfl (OP.callRO rfl rfl hl1 (hR MM MM) rfl rfl ?_)
  repeat (first | refine GD ?_ | refine NW fun _ => ?_)
  refine WL.step rfl (OP.callRO rfl rfl hl2 (hQ MM MM) rfl rfl ?_)
  repeat (first | refine GD ?_ | refine NW fun _ => ?_)
  refine WL.guardT rfl rfl rfl rfl (OP.callRT rfl rfl hat (hR MM MM) rfl rfl ?_)
  rintro v E ⟨a5, c5, rfl, rfl⟩
  repeat (first | refine GD ?_ | refine NW fun _ => ?_)
  refine WL.guardT rfl rfl rfl rfl (OP.callRT rfl rfl hqat (hQ MM MM) rfl rfl ?_)
  rintro v E ⟨a6, c6, rfl, rfl⟩
  repeat (first | refine GD ?_ | refine NW fun _ => ?_)
  refine WL.guardT rfl rfl rfl rfl (OP.callRO rfl rfl (hsA _ _ _ _) (Ent.and (Ent.own MM) (Ent.own MM)) rfl rfl ?_)
  rw [decide_eq_true rfl]
  repeat (first | refine GD ?_ | refine NW fun _ => ?_)
  refine WL.guardT rfl rfl rfl rfl (OP.callRT rfl rfl hnow (hR MM MM) rfl rfl ?_)
  rintro v E ⟨a7, c7, rfl, rfl⟩
  repeat (first | refine GD ?_ | refine NW fun _ => ?_)
  refine WL.guardT rfl rfl rfl rfl (OP.callRO rfl rfl hl2 (hQ MM MM) rfl rfl ?_)
  repeat (first | refine GD ?_ | refine NW fun _ => ?_)
  refine WL.guardT rfl rfl rfl rfl (OP.callRT rfl rfl hqal (hQ MM MM) rfl rfl ?_)
  rintro v E ⟨a8, c8, rfl, rfl⟩
  repeat (first | refine GD ?_ | refine NW fun _ => ?_)
  refine WL.guardT rfl rfl rfl rfl (OP.callRO rfl rfl (hsB _ _ _ _) (Ent.and (Ent.own MM) (Ent.own MM)) rfl rfl ?_)
  rw [decide_eq_true rfl]
  repeat (first | refine GD ?_ | refine NW fun _ => ?_)
  exact ⟨(k + 1, ch, a1, cap1, a2, cap2), ⟨by dsimp only; omega, hi, hv, hs⟩, by dsimp only; omega, ⟨rfl, rfl, rfl, rfl, rfl, rfl, trivial⟩, II⟩
end Go.Proofs.YtkoakmaihcheaabDoor
/- Contracts of functions of the given program, and plain laws on what they compute: parts of the proofs of laws. -/
namespace Go.Proofs.YtkoakmaihcheaabDoor
open Go Go.GL

/-- each change could be put when it came -/
def Good (f : List Bool) (ch : List Ch) : Prop := ∀ d c r, ch = d ++ c :: r → putM f d c = none
theorem Good.nil (f : List Bool) : Good f [] := fun d c r h => by cases d <;> cases h
theorem Good.snoc {f : List Bool} {ch : List Ch} {c : Ch} (h : Good f ch) (hp : putM f ch c = none) : Good f (ch ++ [c]) := by
  intro d c' r e
  rcases List.eq_nil_or_concat r with rfl | ⟨r', x, rfl⟩
  · obtain ⟨rfl, e2⟩ := List.append_inj' e rfl
    cases e2
    exact hp
  · have e' : ch ++ [c] = (d ++ c' :: r') ++ [x] := by rw [e]; simp
    obtain ⟨e1, _⟩ := List.append_inj' e' rfl
    exact h d c' r' e1
theorem good_put {f : List Bool} {ch : List Ch} {c : Ch} (h : Good f ch) : Good f (putCh f ch c) := by
  rcases putCh_cases f ch c with ⟨h1, h2⟩ | ⟨_, h2⟩
  · rw [h2]; exact h.snoc h1
  · rw [h2]; exact h
theorem good_stepO {f : List Bool} {ch : List Ch} {o : Op3} (h : Good f ch) : Good f (stepO f ch o) := by
  unfold stepO
  split
  · exact good_put h
  · split
    · exact good_put h
    · exact h
theorem good_play {f : List Bool} (l : List Op3) : ∀ {ch : List Ch}, Good f ch → Good f (playM f ch l) := by
  induction l with
  | nil => exact fun h => h
  | cons o r ih => exact fun h => ih (good_stepO h)
theorem Good.init {f : List Bool} {ch : List Ch} {c : Ch} (h : Good f (ch ++ [c])) : Good f ch ∧ putM f ch c = none :=
  ⟨fun d x r e => h d x (r ++ [c]) (by rw [e]; simp), h ch c [] rfl⟩
theorem Good.inc {f : List Bool} {ch : List Ch} (h : Good f ch) : Inc ch ∧ Vols ch ∧ ch.length ≤ 100 := by
  rcases List.eq_nil_or_concat ch with rfl | ⟨d, c, rfl⟩
  · exact ⟨.nil, (by intro x hx; cases hx), by simp⟩
  · rw [List.concat_eq_append] at h ⊢
    obtain ⟨h1, h2⟩ := h.init
    obtain ⟨i1, i2, i3⟩ := Good.inc h1
    obtain ⟨v, m, _, _, n⟩ := put_none h2
    refine ⟨.snoc i1 m, ?_, by simp; omega⟩
    intro x hx
    rcases List.mem_append.1 hx with hx | hx
    · exact i2 x hx
    · rw [List.mem_singleton.1 hx]; exact v
termination_by ch.length
decreasing_by simp_all

def loopB (f : List Bool) : Nat → PR → List Ch → Option (PR × List Ch)
  | 0, s, ch => some (s, ch)
  | k + 1, s, ch =>
    if (numR (numR s).2).2.2 ≠ 0 then none
    else match putM f ch ((numR s).1, (numR (numR s).2).1 / 2, decide ((numR (numR s).2).1 % 2 = 1)) with
      | some _ => none
      | none => loopB f k (numR (numR s).2).2 (ch ++ [((numR s).1, (numR (numR s).2).1 / 2, decide ((numR (numR s).2).1 % 2 = 1))])
theorem loopB_succ (f : List Bool) (k : Nat) (s : PR) (ch : List Ch) : loopB f (k + 1) s ch =
    if (numR (numR s).2).2.2 ≠ 0 then none
    else match putM f ch ((numR s).1, (numR (numR s).2).1 / 2, decide ((numR (numR s).2).1 % 2 = 1)) with
      | some _ => none
      | none => loopB f k (numR (numR s).2).2 (ch ++ [((numR s).1, (numR (numR s).2).1 / 2, decide ((numR (numR s).2).1 % 2 = 1))]) := rfl
def bitsOf (z : Int) : List Bool := [decide (z % 2 = 1), decide (z / 2 % 2 = 1), decide (z / 4 % 2 = 1), decide (z / 8 % 2 = 1)]
def fromM (l : List UInt8) : Option (List Bool × List Ch) :=
  if (numR (numR (l, 0)).2).2.2 ≠ 0 ∨ 16 ≤ (numR (l, 0)).1 ∨ 100 < (numR (numR (l, 0)).2).1 then none
  else match loopB (bitsOf (numR (l, 0)).1) (numR (numR (l, 0)).2).1.toNat (numR (numR (l, 0)).2).2 [] with
    | none => none
    | some (s, ch) => if s.2 ≠ 0 ∨ s.1 ≠ [] then none else some (bitsOf (numR (l, 0)).1, ch)

theorem loopB_inv {f : List Bool} : ∀ (k : Nat) {s s' : PR} {ch ch' : List Ch}, loopB f k s ch = some (s', ch') → s'.2 = 0 → Good f ch →
    s.2 = 0 ∧ Good f ch' ∧ ∃ ch2, ch' = ch ++ ch2 ∧ ch2.length = k ∧ s.1 = ch2.flatMap chB ++ s'.1
  | 0, s, s', ch, ch', h, he, hg => by
    cases h
    exact ⟨he, hg, [], by simp, rfl, by simp⟩
  | k + 1, s, s', ch, ch', h, he, hg => by
    rw [loopB_succ] at h
    split at h
    · cases h
    rename_i h0
    split at h
    · cases h
    rename_i hp
    obtain ⟨z1, z2, z3, z4⟩ := numR_inv (s := (numR s).2) (Decidable.of_not_not h0)
    obtain ⟨y1, y2, y3, y4⟩ := numR_inv z1
    obtain ⟨_, g1, ch2, e1, e2, e3⟩ := loopB_inv k h he (hg.snoc hp)
    refine ⟨y1, g1, _ :: ch2, by rw [e1, List.append_assoc]; rfl, by rw [List.length_cons, e2], ?_⟩
    rw [y2, z2, e3, List.flatMap_cons]
    unfold chB
    dsimp only
    have hn : 2 * ((numR (numR s).2).1 / 2) + (if decide ((numR (numR s).2).1 % 2 = 1) = true then 1 else 0) = (numR (numR s).2).1 := by
      split
      · rename_i h; have := of_decide_eq_true h; omega
      · rename_i h; have : ¬ _ := fun x => h (decide_eq_true x); omega
    rw [hn]
    simp only [List.append_assoc]
theorem bits_of {z : Int} (h : 0 ≤ z ∧ z < 16) : bitsM (bitsOf z) = z := by
  unfold bitsOf
  rw [bits_sum]
  have hb : ∀ x : Int, bI (decide (x % 2 = 1)) = x % 2 := by
    intro x
    by_cases hx : x % 2 = 1
    · rw [decide_eq_true hx, hx]; rfl
    · rw [decide_eq_false hx]; show (0 : Int) = _; omega
  rw [hb, hb, hb, hb]
  omega
theorem of_bits {f : List Bool} (h : f.length = 4) : bitsOf (bitsM f) = f ∧ 0 ≤ bitsM f ∧ bitsM f < 16 := by
  obtain ⟨a, b, c, d, rfl⟩ := four h
  rw [bits_sum]
  cases a <;> cases b <;> cases c <;> cases d <;> decide
/-- bytes that are a group are just that group's -/
theorem fromM_some {l : List UInt8} {f : List Bool} {ch : List Ch} (h : fromM l = some (f, ch)) : f.length = 4 ∧ Good f ch ∧ bytesM f ch = l := by
  unfold fromM at h
  split at h
  · cases h
  rename_i hc
  split at h
  · cases h
  rename_i s ch' hl
  split at h
  · cases h
  rename_i hs
  cases h
  have hs2 : s.2 = 0 := by
    by_cases x : s.2 = 0
    · exact x
    · exact absurd (.inl x) hs
  have hs1 : s.1 = [] := by
    by_cases x : s.1 = []
    · exact x
    · exact absurd (.inr x) hs
  obtain ⟨e0, g, ch2, e1, e2, e3⟩ := loopB_inv _ hl hs2 (Good.nil _)
  obtain ⟨z1, z2, z3, z4⟩ := numR_inv (s := (numR (l, 0)).2) e0
  obtain ⟨y1, y2, y3, y4⟩ := numR_inv z1
  rw [List.nil_append] at e1
  subst e1
  refine ⟨rfl, g, ?_⟩
  unfold bytesM
  rw [bits_of ⟨y3, by omega⟩, e2, Int.toNat_of_nonneg z3]
  have y2' : l = numB (clampN (numR (l, 0)).1) ++ (numR (l, 0)).2.1 := y2
  rw [hs1, List.append_nil] at e3
  rw [List.append_assoc, ← e3, ← z2]
  exact y2'.symm
theorem loopB_ok {f : List Bool} : ∀ (todo done_ : List Ch) (rest : List UInt8), Good f (done_ ++ todo) → loopB f todo.length (todo.flatMap chB ++ rest, 0) done_ = some ((rest, 0), done_ ++ todo)
  | [], d, rest, _ => by simp [loopB]
  | c :: r, d, rest, hg => by
    have hp := hg d c r rfl
    obtain ⟨hv, hm, hw, _, _⟩ := put_none hp
    have hlm : ∀ d : List Ch, Good f d → 0 ≤ lastM d := fun d hd => by
      have hi := (Good.inc hd).1
      clear hg hp hv hm hw
      induction hi with
      | nil => exact Int.le_refl _
      | snoc h1 h2 ih => rw [lastM_snoc]; have := ih hd.init.1; omega
    have hl0 := hlm d (fun d' c' r' e => hg d' c' (r' ++ c :: r) (by rw [e]; simp))
    have hww : (1152921504606846975 : Int) = widest := rfl
    rw [List.length_cons, loopB_succ, List.flatMap_cons]
    have e1 : chB c ++ r.flatMap chB ++ rest = numB (clampN c.1) ++ (numB (clampN (2 * c.2.1 + (if c.2.2 = true then 1 else 0))) ++ (r.flatMap chB ++ rest)) := by
      unfold chB; simp only [List.append_assoc]
    have hn : 0 ≤ 2 * c.2.1 + (if c.2.2 = true then 1 else 0) ∧ 2 * c.2.1 + (if c.2.2 = true then 1 else 0) ≤ widest := by
      unfold widest
      split <;> omega
    rw [e1, numR_numB ⟨by omega, by omega⟩]
    dsimp only
    rw [numR_numB hn]
    dsimp only
    have hc : (c.1, (2 * c.2.1 + (if c.2.2 = true then 1 else 0)) / 2, decide ((2 * c.2.1 + (if c.2.2 = true then 1 else 0)) % 2 = 1)) = c := by
      obtain ⟨m, v, g⟩ := c
      cases g
      · simp only [Bool.false_eq_true, if_false]
        rw [show (2 * v + 0) / 2 = v by omega, show decide ((2 * v + 0) % 2 = 1) = false from decide_eq_false (by omega)]
      · simp only [if_true]
        rw [show (2 * v + 1) / 2 = v by omega, show decide ((2 * v + 1) % 2 = 1) = true from decide_eq_true (by omega)]
    rw [hc, hp, if_neg (by simp)]
    dsimp only
    rw [loopB_ok r (d ++ [c]) rest (by simpa using hg)]
    simp
/-- a group's bytes are it -/
theorem fromM_bytes {f : List Bool} {ch : List Ch} (hf : f.length = 4) (hg : Good f ch) : fromM (bytesM f ch) = some (f, ch) := by
  obtain ⟨hb, b0, b1⟩ := of_bits hf
  obtain ⟨_, _, hs⟩ := hg.inc
  have hw : (100 : Int) ≤ widest := by decide
  have e : bytesM f ch = numB (clampN (bitsM f)) ++ (numB (clampN (ch.length : Int)) ++ (ch.flatMap chB ++ [])) := by
    unfold bytesM; simp
  unfold fromM
  rw [e, numR_numB ⟨b0, by omega⟩]
  dsimp only
  rw [numR_numB ⟨by omega, by omega⟩]
  dsimp only
  rw [if_neg (by omega), hb, Int.toNat_natCast, loopB_ok ch [] [] hg]
  simp
end Go.Proofs.YtkoakmaihcheaabDoor
/- Contracts of functions of the given program, and plain laws on what they compute: parts of the proofs of laws. -/

namespace Go.Proofs.YtkoakmaihcheaabDoor
open Go Go.GL

theorem and_one {x : Int} (h : 0 ≤ x ∧ x < 9223372036854775808) : bitsV .and .i64 x 1 = x % 2 := by
  have h1 : (BitVec.ofInt 64 x).toNat = x.toNat := by
    rw [BitVec.toNat_ofInt]
    omega
  have h2 : (BitVec.ofInt 64 x &&& BitVec.ofInt 64 1).toNat = x.toNat % 2 := by
    rw [BitVec.toNat_and, h1]
    exact Nat.and_one_is_mod _
  show IntKind.i64.wrap ((BitVec.ofInt 64 x &&& BitVec.ofInt 64 1).toNat : Int) = _
  rw [h2, wrap_fit (k := .i64) (by unfold Fit; omega)]
  omega
theorem bit_k {z : Int} (h : 0 ≤ z ∧ z ≤ widest) {k : Nat} (hk : k < 4) : bitsV .and .i64 (shrV .i64 z (k : Int)) 1 = z / 2 ^ k % 2 := by
  unfold widest at h
  have e : shrV .i64 z (k : Int) = z / 2 ^ k := by
    unfold shrV
    rw [Int.toNat_natCast, Nat.min_eq_left (by show k ≤ 64; omega), Int.fdiv_eq_ediv_of_nonneg _ (by exact Int.pow_nonneg (by decide))]
  rw [e, and_one]
  have : (0 : Int) < 2 ^ k := Int.pow_pos (by decide)
  exact ⟨Int.ediv_nonneg (by omega) (by omega), by have := Int.ediv_le_self (b := 2 ^ k) h.1; omega⟩
set_option maxRecDepth 10000 in
theorem left_ro (r : Nat) (a : Option Addr) (n c : Nat) (e : Int) : RO G 66 [.pointer (some ⟨r, 0, none⟩)] (cellsAt r 0 [.slice a n c, .int .i64 e]) (.int .i64 n) := by
  refine RO.enter Tryd.func66 rfl (by decide) rfl Tryd.ntmps66 rfl (fun A hu hA => ?_) (up_cellsAt _ _ _)
  repeat (first | refine GO ?_ | refine NW fun _ => ?_)
  refine WL.step rfl (OP.load1 (v := .slice a n c) rfl rfl rfl rfl (Ent.mem (A := A) MM hu (fun h x => cellsAt_one (i := 0) (hA h x) rfl)) rfl rfl ?_)
  repeat (first | refine GO ?_ | refine NW fun _ => ?_)
  exact ret1 rfl ⟨rfl, MM⟩
set_option maxRecDepth 10000 in
theorem endr_ro (r : Nat) (a : Option Addr) (n c : Nat) (e : Int) : RO G 54 [.pointer (some ⟨r, 0, none⟩)] (cellsAt r 0 [.slice a n c, .int .i64 e]) (.int .i64 (if e ≠ 0 then e else if 0 < n then 3 else 0)) := by
  refine RO.enter Tryd.func54 rfl (by decide) rfl Tryd.ntmps54 rfl (fun A hu hA => ?_) (up_cellsAt _ _ _)
  repeat (first | refine GO ?_ | refine NW fun _ => ?_)
  refine WL.step rfl (OP.callRO rfl rfl (err_ro r _ e) (Ent.mem MM hu hA) rfl rfl ?_)
  by_cases he : e = 0
  rotate_left
  · rw [if_pos he]
    repeat (first | refine GD ?_ | refine NW fun _ => ?_)
    exact ret1 rfl ⟨rfl, MM⟩
  rw [if_neg (not_not_intro he)]
  repeat (first | refine GD ?_ | refine NW fun _ => ?_)
  refine WL.step rfl (OP.callRO rfl rfl (left_ro r a n c e) (Ent.mem MM hu hA) rfl rfl ?_)
  by_cases hn : 0 < n
  · rw [if_pos hn]
    repeat (first | refine GD ?_ | refine NW fun _ => ?_)
    exact ret1 rfl ⟨rfl, MM⟩
  · rw [if_neg hn]
    repeat (first | refine GD ?_ | refine NW fun _ => ?_)
    exact ret1 rfl ⟨rfl, MM⟩
def FromPost (l : List UInt8) (v : Value) (E : List Assn) : Prop :=
  match fromM l with
  | some (f, ch) => ∃ p a cap, v = .tuple #[.pointer (some ⟨p, 0, none⟩), .nilIface] ∧ E = grpL p a ch.length cap f ch
  | none => ∃ e, v = .tuple #[.pointer none, e] ∧ Fault member 0 1 e E
set_option maxHeartbeats 8000000 in
set_option maxRecDepth 10000 in
theorem fromB_ok (a : Option Addr) (n c : Nat) (l : List UInt8) (hn : n = l.length) (hc : n ≤ c) (hs : n < 1000000) : RT G 32 [.slice a n c] (readS a n 1 (l.map byteV)) (FromPost l) := by
  refine RT.enter Tryd.func32 rfl (by decide) rfl Tryd.ntmps32 rfl (fun A hu hA => ?_)
  have hby : Bytes A l (.slice a n c) := ⟨a, n, c, rfl, hn, hc, hA⟩
  repeat (first | refine GO ?_ | refine NW fun _ => ?_)
  refine WL.step rfl (OP.callRT rfl rfl (read0_ok a n c) (fun _ _ => trivial) rfl rfl ?_)
  rintro _ _ ⟨r, rfl, rfl⟩
  repeat (first | refine GO ?_ | refine NW fun _ => ?_)
  refine WL.step rfl (OP.call (pre := [blk r [.slice a n c, .int .i64 0] 122, A]) rfl rfl (numR_ok r _ (l, 0) A hu hby (by dsimp only; omega)) PS rfl rfl ?_)
  rintro _ _ ⟨rfl, v1, hv1, rfl⟩
  have b1 := numR_bd (l, 0)
  have w1 := numR_wide (l, 0)
  dsimp only at b1
  have hF : fromM l = if (numR (numR (l, 0)).2).2.2 ≠ 0 ∨ 16 ≤ (numR (l, 0)).1 ∨ 100 < (numR (numR (l, 0)).2).1 then none
      else match loopB (bitsOf (numR (l, 0)).1) (numR (numR (l, 0)).2).1.toNat (numR (numR (l, 0)).2).2 [] with
        | none => none
        | some (s, ch) => if s.2 ≠ 0 ∨ s.1 ≠ [] then none else some (bitsOf (numR (l, 0)).1, ch) := rfl
  generalize numR (l, 0) = y1 at *
  repeat (first | refine GO ?_ | refine NW fun _ => ?_)
  refine WL.step rfl (OP.call (pre := [blk r [v1, .int .i64 y1.2.2] 122, A]) rfl rfl (numR_ok r v1 y1.2 A hu hv1 (by omega)) PS rfl rfl ?_)
  rintro _ _ ⟨rfl, v2, hv2, rfl⟩
  have b2 := numR_bd y1.2
  have w2 := numR_wide y1.2
  generalize numR y1.2 = y2 at *
  obtain ⟨first, s1⟩ := y1
  obtain ⟨many, s2, e2⟩ := y2
  dsimp only at b1 b2 w1 w2 hF hv2 ⊢
  repeat (first | refine GO ?_ | refine NW fun _ => ?_)
  rename_i p
  refine WC.loop (σ := Nat) (fun k => k ≤ 4) (fun k => [(4, .val (.pointer (some ⟨r, 0, none⟩))), (5, .val (.int .i64 first)), (6, .val (.int .i64 many)), (7, .val (.pointer (some ⟨p, 0, none⟩))), (19, .val (.int .i64 k))])
    (fun k => [blk p (bools ((bitsOf first).take k ++ List.replicate (4 - k) false) ++ [.slice none 0 0]) 69, blk r [v2, .int .i64 e2] 122, A]) (fun k => 4 - k) 0 (by decide) ⟨rfl, rfl, rfl, rfl, rfl, trivial⟩ II ?_
  intro k hk
  by_cases hk4 : k < 4
  · obtain rfl | rfl | rfl | rfl : k = 0 ∨ k = 1 ∨ k = 2 ∨ k = 3 := by omega
    · have hb : bitsV .and .i64 (shrV .i64 first ((0 : Nat) : Int)) 1 = first % 2 := (bit_k w1 hk4).trans (by simp)
      repeat (first | refine GD ?_ | refine NW fun _ => ?_)
      refine RD 10 11 ([A]) ?_
      refine VV 0 ?_
      refine VV 1 ?_
      refine VV 2 ?_
      refine VV 3 ?_
      refine VV 4 ?_
      refine VV 5 ?_
      refine VV 6 ?_
      rw [hb]
      refine VV 7 ?_
      refine VV 8 ?_
      refine VV 9 ?_
      refine WH.only 10 rfl rfl (by kernel_rfl) rfl (OP.store rfl rfl rfl rfl rfl rfl rfl UP rfl ⟨(fun h => nomatch h), ?_⟩)
      refine DN ?_
      repeat (first | refine GD ?_ | refine NW fun _ => ?_)
      exact ⟨0 + 1, by omega, by omega, ⟨rfl, rfl, rfl, rfl, rfl, trivial⟩, Imp.refl _⟩
    · have hb : bitsV .and .i64 (shrV .i64 first ((1 : Nat) : Int)) 1 = first / 2 % 2 := bit_k w1 hk4
      repeat (first | refine GD ?_ | refine NW fun _ => ?_)
      refine RD 10 11 ([A]) ?_
      refine VV 0 ?_
      refine VV 1 ?_
      refine VV 2 ?_
      refine VV 3 ?_
      refine VV 4 ?_
      refine VV 5 ?_
      refine VV 6 ?_
      rw [hb]
      refine VV 7 ?_
      refine VV 8 ?_
      refine VV 9 ?_
      refine WH.only 10 rfl rfl (by kernel_rfl) rfl (OP.store rfl rfl rfl rfl rfl rfl rfl UP rfl ⟨(fun h => nomatch h), ?_⟩)
      refine DN ?_
      repeat (first | refine GD ?_ | refine NW fun _ => ?_)
      exact ⟨1 + 1, by omega, by omega, ⟨rfl, rfl, rfl, rfl, rfl, trivial⟩, Imp.refl _⟩
    · have hb : bitsV .and .i64 (shrV .i64 first ((2 : Nat) : Int)) 1 = first / 4 % 2 := bit_k w1 hk4
      repeat (first | refine GD ?_ | refine NW fun _ => ?_)
      refine RD 10 11 ([A]) ?_
      refine VV 0 ?_
      refine VV 1 ?_
      refine VV 2 ?_
      refine VV 3 ?_
      refine VV 4 ?_
      refine VV 5 ?_
      refine VV 6 ?_
      rw [hb]
      refine VV 7 ?_
      refine VV 8 ?_
      refine VV 9 ?_
      refine WH.only 10 rfl rfl (by kernel_rfl) rfl (OP.store rfl rfl rfl rfl rfl rfl rfl UP rfl ⟨(fun h => nomatch h), ?_⟩)
      refine DN ?_
      repeat (first | refine GD ?_ | refine NW fun _ => ?_)
      exact ⟨2 + 1, by omega, by omega, ⟨rfl, rfl, rfl, rfl, rfl, trivial⟩, Imp.refl _⟩
    · have hb : bitsV .and .i64 (shrV .i64 first ((3 : Nat) : Int)) 1 = first / 8 % 2 := bit_k w1 hk4
      repeat (first | refine GD ?_ | refine NW fun _ => ?_)
      refine RD 10 11 ([A]) ?_
      refine VV 0 ?_
      refine VV 1 ?_
      refine VV 2 ?_
      refine VV 3 ?_
      refine VV 4 ?_
      refine VV 5 ?_
      refine VV 6 ?_
      rw [hb]
      refine VV 7 ?_
      refine VV 8 ?_
      refine VV 9 ?_
      refine WH.only 10 rfl rfl (by kernel_rfl) rfl (OP.store rfl rfl rfl rfl rfl rfl rfl UP rfl ⟨(fun h => nomatch h), ?_⟩)
      refine DN ?_
      repeat (first | refine GD ?_ | refine NW fun _ => ?_)
      exact ⟨3 + 1, by omega, by omega, ⟨rfl, rfl, rfl, rfl, rfl, trivial⟩, Imp.refl _⟩
  obtain rfl : k = 4 := by omega
  rw [show bools ((bitsOf first).take 4 ++ List.replicate (4 - 4) false) = bools (bitsOf first) from rfl]
  have hfl : (bitsOf first).length = 4 := rfl
  generalize bitsOf first = f at *
  repeat (first | refine GD ?_ | refine NW fun _ => ?_)
  refine WL.step rfl (OP.callRO rfl rfl (err_ro r v2 e2) (Ent.whole (T := 122) MM) rfl rfl ?_)
  by_cases he : e2 = 0
  rotate_left
  · have hbad : fromM l = none := by rw [hF, if_pos (.inl he)]
    repeat (first | refine GD ?_ | refine NW fun _ => ?_)
    refine WL.step rfl (OP.call (pre := []) (F := _) rfl rfl (wrong_ok 0 1 (by decide)) (Imp.refl _) rfl rfl ?_)
    rintro _ _ ⟨b', rfl, rfl⟩
    repeat (first | refine GD ?_ | refine NW fun _ => ?_)
    refine ret2 rfl rfl ⟨[_], ?_, II⟩
    unfold FromPost
    rw [hbad]
    exact ⟨_, rfl, _, rfl, rfl⟩
  subst he
  by_cases h16 : 16 ≤ first
  · have hbad : fromM l = none := by rw [hF, if_pos (.inr (.inl h16))]
    repeat (first | refine GD ?_ | refine NW fun _ => ?_)
    refine WL.step rfl (OP.call (pre := []) (F := _) rfl rfl (wrong_ok 0 1 (by decide)) (Imp.refl _) rfl rfl ?_)
    rintro _ _ ⟨b', rfl, rfl⟩
    repeat (first | refine GD ?_ | refine NW fun _ => ?_)
    refine ret2 rfl rfl ⟨[_], ?_, II⟩
    unfold FromPost
    rw [hbad]
    exact ⟨_, rfl, _, rfl, rfl⟩
  by_cases h100 : 100 < many
  · have hbad : fromM l = none := by rw [hF, if_pos (.inr (.inr h100))]
    repeat (first | refine GD ?_ | refine NW fun _ => ?_)
    refine WL.step rfl (OP.call (pre := []) (F := _) rfl rfl (wrong_ok 0 1 (by decide)) (Imp.refl _) rfl rfl ?_)
    rintro _ _ ⟨b', rfl, rfl⟩
    repeat (first | refine GD ?_ | refine NW fun _ => ?_)
    refine ret2 rfl rfl ⟨[_], ?_, II⟩
    unfold FromPost
    rw [hbad]
    exact ⟨_, rfl, _, rfl, rfl⟩
  rw [if_neg (by omega)] at hF
  generalize hR : loopB f many.toNat (s2, 0) [] = R at *
  repeat (first | refine GD ?_ | refine NW fun _ => ?_)
  refine WC.imp (Imp.nilS 75 3) ?_
  refine WC.loop (σ := Nat × PR × Value × List Ch × Option Addr × Nat) (fun s => s.1 ≤ many.toNat ∧ Bytes A s.2.1.1 s.2.2.1 ∧ s.2.1.1.length < 1000000 ∧ Good f s.2.2.2.1 ∧ loopB f (many.toNat - s.1) s.2.1 s.2.2.2.1 = R)
    (fun s => [(4, .val (.pointer (some ⟨r, 0, none⟩))), (7, .val (.pointer (some ⟨p, 0, none⟩))), (45, .val (.int .i64 many)), (46, .val (.int .i64 s.1))])
    (fun s => grpL p s.2.2.2.2.1 s.2.2.2.1.length s.2.2.2.2.2 f s.2.2.2.1 ++ [blk r [s.2.2.1, .int .i64 s.2.1.2] 122, A]) (fun s => many.toNat - s.1) (0, (s2, 0), v2, [], none, 0)
    ⟨Nat.zero_le _, hv2, by dsimp only; omega, Good.nil f, hR⟩ ⟨rfl, rfl, rfl, rfl, trivial⟩ II ?_
  rintro ⟨k, s, v3, ch, a1, cap1⟩ ⟨hk, hv3, hl3, hg, hRk⟩
  dsimp only at hk hv3 hl3 hg hRk ⊢
  obtain ⟨hi, hv, hs100⟩ := hg.inc
  by_cases hlt : k < many.toNat
  rotate_left
  · have hk0 : many.toNat - k = 0 := by omega
    rw [hk0] at hRk
    have hRk : R = some (s, ch) := hRk.symm
    subst hRk
    obtain ⟨a4, n4, c4, rfl, hn4, hc4, hr4⟩ := hv3
    dsimp only at hF
    repeat (first | refine GD ?_ | refine NW fun _ => ?_)
    refine WL.step rfl (OP.callRO rfl rfl (endr_ro r a4 n4 c4 s.2) (Ent.whole (T := 122) MM) rfl rfl ?_)
    by_cases hse : s.2 = 0
    rotate_left
    · have hbad : fromM l = none := by rw [hF, if_pos (.inl hse)]
      rw [if_pos hse]
      repeat (first | refine GD ?_ | refine NW fun _ => ?_)
      refine WL.step rfl (OP.call (pre := []) (F := _) rfl rfl (wrong_ok 0 1 (by decide)) (Imp.refl _) rfl rfl ?_)
      rintro _ _ ⟨b', rfl, rfl⟩
      repeat (first | refine GD ?_ | refine NW fun _ => ?_)
      refine ret2 rfl rfl ⟨[_], ?_, II⟩
      unfold FromPost
      rw [hbad]
      exact ⟨_, rfl, _, rfl, rfl⟩
    rw [if_neg (not_not_intro hse)]
    by_cases hsl : 0 < n4
    · have hbad : fromM l = none := by rw [hF, if_pos (.inr (fun h => by rw [h] at hn4; simp at hn4; omega))]
      rw [if_pos hsl]
      repeat (first | refine GD ?_ | refine NW fun _ => ?_)
      refine WL.step rfl (OP.call (pre := []) (F := _) rfl rfl (wrong_ok 0 1 (by decide)) (Imp.refl _) rfl rfl ?_)
      rintro _ _ ⟨b', rfl, rfl⟩
      repeat (first | refine GD ?_ | refine NW fun _ => ?_)
      refine ret2 rfl rfl ⟨[_], ?_, II⟩
      unfold FromPost
      rw [hbad]
      exact ⟨_, rfl, _, rfl, rfl⟩
    rw [if_neg hsl]
    have hok : fromM l = some (f, ch) := by
      rw [hF, if_neg]
      have : s.1 = [] := List.length_eq_zero_iff.1 (by omega)
      rw [this, hse]
      simp
    repeat (first | refine GD ?_ | refine NW fun _ => ?_)
    refine ret2 rfl rfl ⟨grpL p a1 ch.length cap1 f ch, ?_, II⟩
    unfold FromPost
    rw [hok]
    exact ⟨p, a1, cap1, rfl, rfl⟩
  rw [show many.toNat - k = (many.toNat - (k + 1)) + 1 by omega, loopB_succ] at hRk
  repeat (first | refine GD ?_ | refine NW fun _ => ?_)
  refine WL.step rfl (OP.call (pre := [blk r [v3, .int .i64 s.2] 122, A]) rfl rfl (numR_ok r v3 s A hu hv3 hl3) PS rfl rfl ?_)
  rintro _ _ ⟨rfl, v4, hv4, rfl⟩
  have b3 := numR_bd s
  generalize numR s = y3 at *
  repeat (first | refine GD ?_ | refine NW fun _ => ?_)
  refine WL.step rfl (OP.call (pre := [blk r [v4, .int .i64 y3.2.2] 122, A]) rfl rfl (numR_ok r v4 y3.2 A hu hv4 (by omega)) PS rfl rfl ?_)
  rintro _ _ ⟨rfl, v5, hv5, rfl⟩
  have b4 := numR_bd y3.2
  generalize numR y3.2 = y4 at *
  obtain ⟨mark, s3⟩ := y3
  obtain ⟨nn, s4, e4⟩ := y4
  dsimp only at b3 b4 hRk hv5 ⊢
  obtain ⟨_, hn0, _⟩ := b4
  repeat (first | refine GD ?_ | refine NW fun _ => ?_)
  refine WL.step rfl (OP.callRO rfl rfl (err_ro r v5 e4) (Ent.whole (T := 122) MM) rfl rfl ?_)
  by_cases he : e4 = 0
  rotate_left
  · rw [if_pos he] at hRk
    subst hRk
    have hbad : fromM l = none := hF
    repeat (first | refine GD ?_ | refine NW fun _ => ?_)
    refine WL.step rfl (OP.call (pre := []) (F := _) rfl rfl (wrong_ok 0 1 (by decide)) (Imp.refl _) rfl rfl ?_)
    rintro _ _ ⟨b', rfl, rfl⟩
    repeat (first | refine GD ?_ | refine NW fun _ => ?_)
    refine ret2 rfl rfl ⟨[_], ?_, II⟩
    unfold FromPost
    rw [hbad]
    exact ⟨_, rfl, _, rfl, rfl⟩
  subst he
  rw [if_neg (by simp)] at hRk
  repeat (first | refine GD ?_ | refine NW fun _ => ?_)
  refine WL.guardT rfl rfl rfl rfl (OP.call (pre := grpL p a1 ch.length cap1 f ch) rfl rfl (put_ok p a1 cap1 f ch (mark, nn / 2, decide (nn % 2 = 1)) hfl hv hs100) PS rfl rfl ?_)
  rintro v M hM
  unfold PutPost at hM
  cases hp : putM f ch (mark, nn / 2, decide (nn % 2 = 1)) with
  | some code =>
    rw [hp] at hM hRk
    obtain ⟨E, ⟨b', rfl, rfl⟩, rfl⟩ := hM
    dsimp only at hRk
    subst hRk
    have hbad : fromM l = none := hF
    repeat (first | refine GD ?_ | refine NW fun _ => ?_)
    refine WL.step rfl (OP.call (pre := []) (F := _) rfl rfl (wrong_ok 0 1 (by decide)) (Imp.refl _) rfl rfl ?_)
    rintro _ _ ⟨b', rfl, rfl⟩
    repeat (first | refine GD ?_ | refine NW fun _ => ?_)
    refine ret2 rfl rfl ⟨[_], ?_, II⟩
    unfold FromPost
    rw [hbad]
    exact ⟨_, rfl, _, rfl, rfl⟩
  | none =>
    rw [hp] at hM hRk
    obtain ⟨rfl, a5, cap5, rfl⟩ := hM
    dsimp only at hRk
    repeat (first | refine GD ?_ | refine NW fun _ => ?_)
    exact ⟨(k + 1, (s4, 0), v5, ch ++ [(mark, nn / 2, decide (nn % 2 = 1))], a5, cap5), ⟨by dsimp only; omega, hv5, by dsimp only; omega, hg.snoc hp, hRk⟩, by dsimp only; omega, ⟨rfl, rfl, rfl, rfl, trivial⟩, by rw [show (ch ++ [(mark, nn / 2, decide (nn % 2 = 1))]).length = ch.length + 1 by simp]; exact II⟩
end Go.Proofs.YtkoakmaihcheaabDoor
/- Contracts of functions of the given program, and plain laws on what they compute: parts of the proofs of laws. -/

namespace Go.Proofs.YtkoakmaihcheaabDoor
open Go Go.GL

/-- the reference's reader, as it stands: what is left, what was wrong -/
def qrd (r : Nat) (s : PR) : Assn := blk r [.string (ba s.1), .int .i64 s.2] 101
theorem extractB (b : ByteArray) (i n : Nat) : b.extract i (i + n) = ba ((b.data.toList.drop i).take n) := by
  cases b with | mk d =>
  have : (ByteArray.mk d).extract i (i + n) = ⟨d.extract i (i + n)⟩ := by
    apply ByteArray.ext
    simp
  rw [this]
  unfold ba
  congr 1
  apply Array.toList_inj.1
  simp

theorem ba_take (l : List UInt8) (n : Nat) : (ba l).extract 0 n = ba (l.take n) := by
  have := extractB (ba l) 0 n
  simpa [ba] using this
theorem ba_drop (l : List UInt8) (i : Nat) : (ba l).extract i (ba l).size = ba (l.drop i) := by
  by_cases h : i ≤ l.length
  · have := extractB (ba l) i (l.length - i)
    rw [show i + (l.length - i) = (ba l).size by rw [ba_size]; omega] at this
    rw [this]
    have h2 : (ba l).data.toList = l := by simp [ba]
    rw [h2, List.take_of_length_le (by rw [List.length_drop]; exact Nat.le_refl _)]
  · have h1 : l.drop i = [] := List.drop_eq_nil_of_le (by omega)
    rw [h1]
    have : (ba l).size ≤ i := by rw [ba_size]; omega
    apply ByteArray.ext
    apply Array.ext'
    have h3 : ((ba l).extract i (ba l).size).size = 0 := by rw [ByteArray.size_extract]; omega
    have h4 : ((ba l).extract i (ba l).size).data.toList.length = 0 := by simpa using h3
    rw [List.length_eq_zero_iff.1 h4]
    rfl
set_option maxRecDepth 10000 in
theorem qwrong_ok (r : Nat) (x : Value) (e c : Int) : Triple G 67 [.pointer (some ⟨r, 0, none⟩), .int .i64 c] [blk r [x, .int .i64 e] 101] (fun v M => v = .tuple #[] ∧ M = [qrd r ([], c)]) := by
  refine Triple.enter Tryd.func67 rfl (by decide) rfl Tryd.ntmps67 rfl (fun F => ?_)
  repeat (first | refine GO ?_ | refine NW fun _ => ?_)
  exact ret0n ⟨_, ⟨rfl, rfl⟩, Imp.refl _⟩
set_option maxHeartbeats 4000000 in
set_option maxRecDepth 10000 in
theorem qnum_ok (r : Nat) (s : PR) (hl : s.1.length < 1000000) :
    Triple G 55 [.pointer (some ⟨r, 0, none⟩)] [qrd r s] (fun v M => v = .int .i64 (numR s).1 ∧ M = [qrd r (numR s).2]) := by
  refine Triple.enter Tryd.func55 rfl (by decide) rfl Tryd.ntmps55 rfl (fun F => ?_)
  obtain ⟨l, e⟩ := s
  dsimp only at hl ⊢
  unfold qrd
  by_cases he : e = 0
  rotate_left
  · rw [numR_err he]
    repeat (first | refine GD ?_ | refine NW fun _ => ?_)
    exact ret1 rfl ⟨_, ⟨rfl, rfl⟩, Imp.refl _⟩
  subst he
  have hsz := ba_size l
  rw [numR_zero]
  generalize hF : rdN 0 0 l = R
  repeat (first | refine GD ?_ | refine NW fun _ => ?_)
  refine WC.loop (σ := Nat × Nat) (fun s => s.1 ≤ 8 ∧ s.1 ≤ l.length ∧ s.2 < 128 ^ s.1 ∧ rdN s.1 s.2 (l.drop s.1) = R)
    (fun s => [(0, .val (.pointer (some ⟨r, 0, none⟩))), (3, .val (.int .i64 s.2)), (4, .val (.int .i64 ((128 ^ s.1 : Nat) : Int))), (5, .val (.int .i64 s.1))])
    (fun _ => [blk r [.string (ba l), .int .i64 0] 101, F]) (fun s => l.length - s.1) (0, 0) ⟨by simp, by simp, by simp, hF⟩ ⟨rfl, rfl, rfl, rfl, trivial⟩ II ?_
  rintro ⟨i, m⟩ ⟨hi8, hin, hm, hR⟩
  dsimp only at hi8 hin hm hR ⊢
  by_cases hlt : i < l.length
  rotate_left
  · rw [List.drop_eq_nil_of_le (by omega)] at hR
    repeat (first | refine GD ?_ | refine NW fun _ => ?_)
    refine WL.step rfl (OP.call (pre := [blk r [.string (ba l), .int .i64 0] 101]) rfl rfl (qwrong_ok r _ 0 2) PS rfl rfl ?_)
    rintro _ _ ⟨rfl, rfl⟩
    repeat (first | refine GD ?_ | refine NW fun _ => ?_)
    subst hR
    exact ret1 rfl ⟨_, ⟨rfl, rfl⟩, Imp.refl _⟩
  rw [List.drop_eq_getElem_cons hlt, rdN_cons] at hR
  have hby := byteAt_ba l i hlt
  generalize l[i] = x at *
  have hx8 : x.toNat < 256 := x.toNat_lt
  have hx128 : x.toNat % 128 < 128 := by omega
  have hm2 : m + x.toNat % 128 * 128 ^ i < 128 ^ (i + 1) := by
    have h1 : x.toNat % 128 * 128 ^ i ≤ 127 * 128 ^ i := Nat.mul_le_mul_right _ (by omega)
    rw [Nat.pow_succ]
    omega
  have hp8 := pow128 i hi8
  have h127 : x.toNat % 128 * 128 ^ i ≤ 127 * 128 ^ 8 := Nat.mul_le_mul (by omega) hp8
  have hval : (m : Int) + byteAt (ba l) i % 128 * ((128 ^ i : Nat) : Int) = ((m + x.toNat % 128 * 128 ^ i : Nat) : Int) := by
    rw [hby, Int.natCast_add, Int.natCast_mul]; rfl
  have hmul : byteAt (ba l) i % 128 * ((128 ^ i : Nat) : Int) = ((x.toNat % 128 * 128 ^ i : Nat) : Int) := by
    rw [hby, Int.natCast_mul]; rfl
  have hp1 : ((128 ^ i : Nat) : Int) * 128 = ((128 ^ (i + 1) : Nat) : Int) := by rw [Nat.pow_succ, Int.natCast_mul]; rfl
  have h16 : i = 8 → (15 < x.toNat ↔ 128 ≤ x.toNat ∨ widest < ((m + x.toNat % 128 * 128 ^ i : Nat) : Int)) := by
    intro h; subst h
    unfold widest
    constructor
    · intro h
      by_cases h2 : 128 ≤ x.toNat
      · exact .inl h2
      · right
        have : x.toNat % 128 = x.toNat := by omega
        rw [this]
        omega
    · rintro (h | h)
      · omega
      · omega
  have hu : ((128 ^ i : Nat) : Int) ≤ 72057594037927936 := by omega
  have hu0 : 0 ≤ ((128 ^ i : Nat) : Int) := by omega
  have hp7 : i ≠ 8 → 128 ^ i ≤ 128 ^ 7 := fun h => Nat.pow_le_pow_right (by decide) (by omega)
  generalize hpw : 128 ^ i = u at *
  have hxu : x.toNat % 128 * u ≤ 127 * 128 ^ 8 := h127
  by_cases h8 : i = 8 ∧ 15 < x.toNat
  · rw [if_pos (.inl ⟨h8.1, (h16 h8.1).1 h8.2⟩)] at hR
    obtain ⟨h81, h82⟩ := h8
    have hb15 : 15 < byteAt (ba l) i := by omega
    repeat (first | refine GD ?_ | refine NW fun _ => ?_)
    refine WL.step rfl (OP.call (pre := [blk r [.string (ba l), .int .i64 0] 101]) rfl rfl (qwrong_ok r _ 0 1) PS rfl rfl ?_)
    rintro _ _ ⟨rfl, rfl⟩
    repeat (first | refine GD ?_ | refine NW fun _ => ?_)
    subst hR
    exact ret1 rfl ⟨_, ⟨rfl, rfl⟩, Imp.refl _⟩
  have h8' : ¬ (i = 8 ∧ (128 ≤ x.toNat ∨ widest < ((m + x.toNat % 128 * u : Nat) : Int))) := fun h => h8 ⟨h.1, (h16 h.1).2 h.2⟩
  have hle15 : i = 8 → byteAt (ba l) i ≤ 15 := by intro h; omega
  by_cases hi : i = 8
  · have hb15 : ¬ 15 < byteAt (ba l) i := by omega
    have hc1 : x.toNat < 128 := by omega
    have hc128 : byteAt (ba l) i < 128 := by omega
    have hi0 : 0 < i := by omega
    by_cases hz : x.toNat = 0
    · rw [if_pos (.inr ⟨hi0, hz⟩)] at hR
      have hz0 : byteAt (ba l) i = 0 := by omega
      repeat (first | refine GD ?_ | refine NW fun _ => ?_)
      refine WL.step rfl (OP.call (pre := [blk r [.string (ba l), .int .i64 0] 101]) rfl rfl (qwrong_ok r _ 0 1) PS rfl rfl ?_)
      rintro _ _ ⟨rfl, rfl⟩
      repeat (first | refine GD ?_ | refine NW fun _ => ?_)
      subst hR
      exact ret1 rfl ⟨_, ⟨rfl, rfl⟩, Imp.refl _⟩
    · rw [if_neg (fun h => h.elim h8' (fun h => hz h.2)), if_pos hc1] at hR
      have hz0 : ¬ byteAt (ba l) i = 0 := by omega
      repeat (first | refine GD ?_ | refine NW fun _ => ?_)
      subst hR
      rw [hval]
      refine ret1 rfl ⟨[blk r [.string ((ba l).extract (i + 1) (ba l).size), .int .i64 0] 101], ⟨rfl, ?_⟩, Imp.refl _⟩
      rw [ba_drop]
      rfl
  · by_cases hc1 : x.toNat < 128
    · have hc128 : byteAt (ba l) i < 128 := by omega
      by_cases hi0 : 0 < i
      · by_cases hz : x.toNat = 0
        · rw [if_pos (.inr ⟨hi0, hz⟩)] at hR
          have hz0 : byteAt (ba l) i = 0 := by omega
          repeat (first | refine GD ?_ | refine NW fun _ => ?_)
          refine WL.step rfl (OP.call (pre := [blk r [.string (ba l), .int .i64 0] 101]) rfl rfl (qwrong_ok r _ 0 1) PS rfl rfl ?_)
          rintro _ _ ⟨rfl, rfl⟩
          repeat (first | refine GD ?_ | refine NW fun _ => ?_)
          subst hR
          exact ret1 rfl ⟨_, ⟨rfl, rfl⟩, Imp.refl _⟩
        · rw [if_neg (fun h => h.elim h8' (fun h => hz h.2)), if_pos hc1] at hR
          have hz0 : ¬ byteAt (ba l) i = 0 := by omega
          repeat (first | refine GD ?_ | refine NW fun _ => ?_)
          subst hR
          rw [hval]
          refine ret1 rfl ⟨[blk r [.string ((ba l).extract (i + 1) (ba l).size), .int .i64 0] 101], ⟨rfl, ?_⟩, Imp.refl _⟩
          rw [ba_drop]
          rfl
      · rw [if_neg (fun h => h.elim h8' (fun h => hi0 h.1)), if_pos hc1] at hR
        repeat (first | refine GD ?_ | refine NW fun _ => ?_)
        subst hR
        rw [hval]
        refine ret1 rfl ⟨[blk r [.string ((ba l).extract (i + 1) (ba l).size), .int .i64 0] 101], ⟨rfl, ?_⟩, Imp.refl _⟩
        rw [ba_drop]
        rfl
    · have hc128 : ¬ byteAt (ba l) i < 128 := by omega
      have hp7 := hp7 hi
      rw [if_neg (fun h => h.elim h8' (fun h => by omega)), if_neg hc1] at hR
      repeat (first | refine GD ?_ | refine NW fun _ => ?_)
      exact ⟨(i + 1, m + x.toNat % 128 * u), ⟨by dsimp only; omega, by dsimp only; omega, hm2, hR⟩, by dsimp only; omega, ⟨rfl, by rw [hval]; rfl, by rw [hp1]; rfl, rfl, trivial⟩, Imp.refl _⟩
end Go.Proofs.YtkoakmaihcheaabDoor
/- Contracts of functions of the given program, and plain laws on what they compute: parts of the proofs of laws. -/

namespace Go.Proofs.YtkoakmaihcheaabDoor
open Go Go.GL

set_option maxRecDepth 10000 in
theorem qendr_ok (r : Nat) (s : PR) : Triple G 56 [.pointer (some ⟨r, 0, none⟩)] [qrd r s] (fun v M => v = .int .i64 (if s.2 ≠ 0 then s.2 else if 0 < s.1.length then 3 else 0) ∧ M = [qrd r s]) := by
  refine Triple.enter Tryd.func56 rfl (by decide) rfl Tryd.ntmps56 rfl (fun F => ?_)
  unfold qrd
  have hsz := ba_size s.1
  by_cases he : s.2 = 0
  · rw [if_neg (not_not_intro he)]
    by_cases hl : 0 < s.1.length
    · rw [if_pos hl]
      repeat (first | refine GD ?_ | refine NW fun _ => ?_)
      exact ret1 rfl ⟨_, ⟨rfl, rfl⟩, Imp.refl _⟩
    · rw [if_neg hl]
      repeat (first | refine GD ?_ | refine NW fun _ => ?_)
      refine ret1 rfl ⟨_, ⟨?_, rfl⟩, Imp.refl _⟩
      rw [he]
  · rw [if_pos he]
    repeat (first | refine GD ?_ | refine NW fun _ => ?_)
    exact ret1 rfl ⟨_, ⟨rfl, rfl⟩, Imp.refl _⟩
theorem lastM_nn {f : List Bool} {ch : List Ch} (h : Good f ch) : Inc ch := h.inc.1
def QFromPost (l : List UInt8) (v : Value) (E : List Assn) : Prop :=
  match fromM l with
  | some (f, ch) => ∃ q a cap, v = .tuple #[.pointer (some ⟨q, 0, none⟩), .int .i64 0] ∧ E = refL q a ch.length cap f ch
  | none => v = .tuple #[.pointer none, .int .i64 1] ∧ E = []
theorem bI_mod (z : Int) : z % 2 = bI (decide (z % 2 = 1)) := by
  by_cases hx : z % 2 = 1
  · rw [decide_eq_true hx, hx]; rfl
  · rw [decide_eq_false hx]; show z % 2 = 0; omega
set_option maxHeartbeats 8000000 in
set_option maxRecDepth 10000 in
theorem qfromB_ok (l : List UInt8) (hs : l.length < 1000000) : RT G 33 [.string (ba l)] (fun _ => True) (QFromPost l) := by
  refine RT.enter Tryd.func33 rfl (by decide) rfl Tryd.ntmps33 rfl (fun A hu hA => ?_)
  repeat (first | refine GO ?_ | refine NW fun _ => ?_)
  rename_i r
  refine WL.step rfl (OP.call (pre := [qrd r (l, 0)]) rfl rfl (qnum_ok r (l, 0) (by dsimp only; omega)) PS rfl rfl ?_)
  rintro _ _ ⟨rfl, rfl⟩
  have b1 := numR_bd (l, 0)
  have w1 := numR_wide (l, 0)
  dsimp only at b1
  have hF : fromM l = if (numR (numR (l, 0)).2).2.2 ≠ 0 ∨ 16 ≤ (numR (l, 0)).1 ∨ 100 < (numR (numR (l, 0)).2).1 then none
      else match loopB (bitsOf (numR (l, 0)).1) (numR (numR (l, 0)).2).1.toNat (numR (numR (l, 0)).2).2 [] with
        | none => none
        | some (s, ch) => if s.2 ≠ 0 ∨ s.1 ≠ [] then none else some (bitsOf (numR (l, 0)).1, ch) := rfl
  generalize numR (l, 0) = y1 at *
  repeat (first | refine GO ?_ | refine NW fun _ => ?_)
  refine WL.step rfl (OP.call (pre := [qrd r y1.2]) rfl rfl (qnum_ok r y1.2 (by omega)) PS rfl rfl ?_)
  rintro _ _ ⟨rfl, rfl⟩
  have b2 := numR_bd y1.2
  have w2 := numR_wide y1.2
  generalize numR y1.2 = y2 at *
  obtain ⟨first, s1⟩ := y1
  obtain ⟨many, s2, e2⟩ := y2
  dsimp only at b1 b2 w1 w2 hF ⊢
  have hq : qrd r (s2, e2) = blk r [.string (ba s2), .int .i64 e2] 101 := rfl
  rw [hq]
  by_cases he : e2 = 0
  rotate_left
  · have hbad : fromM l = none := by rw [hF, if_pos (.inl he)]
    repeat (first | refine GD ?_ | refine NW fun _ => ?_)
    refine ret2 rfl rfl ⟨[], ?_, II⟩
    unfold QFromPost
    rw [hbad]
    exact ⟨rfl, rfl⟩
  subst he
  by_cases h16 : 16 ≤ first
  · have hbad : fromM l = none := by rw [hF, if_pos (.inr (.inl h16))]
    repeat (first | refine GD ?_ | refine NW fun _ => ?_)
    refine ret2 rfl rfl ⟨[], ?_, II⟩
    unfold QFromPost
    rw [hbad]
    exact ⟨rfl, rfl⟩
  by_cases h100 : 100 < many
  · have hbad : fromM l = none := by rw [hF, if_pos (.inr (.inr h100))]
    repeat (first | refine GD ?_ | refine NW fun _ => ?_)
    refine ret2 rfl rfl ⟨[], ?_, II⟩
    unfold QFromPost
    rw [hbad]
    exact ⟨rfl, rfl⟩
  rw [if_neg (by omega)] at hF
  generalize hR : loopB (bitsOf first) many.toNat (s2, 0) [] = R at *
  repeat (first | refine GD ?_ | refine NW fun _ => ?_)
  rename_i q
  have e0 := bI_mod first
  have e1 := bI_mod (first / 2)
  have e2 := bI_mod (first / 4)
  have e3 : first / 8 = bI (decide (first / 8 % 2 = 1)) := by rw [← bI_mod]; omega
  have hcells : blk q [.int .i64 (first % 2), .int .i64 (first / 2 % 2), .int .i64 (first / 4 % 2), .int .i64 (first / 8), .slice none 0 0] 91 = blk q (ints4 (bitsOf first) ++ [.slice none 0 0]) 91 := by
    rw [e0, e1, e2, e3]; rfl
  have hfl : (bitsOf first).length = 4 := rfl
  refine WC.imp (M := blk q (ints4 (bitsOf first) ++ [.slice none 0 0]) 91 :: [blk r [.string (ba s2), .int .i64 0] 101, A]) (by rw [← hcells]; exact Imp.refl _) ?_
  clear hcells e0 e1 e2 e3
  generalize bitsOf first = f at *
  refine WC.imp (Imp.nilS 94 3) ?_
  refine WC.loop (σ := Nat × PR × List Ch × Option Addr × Nat) (fun s => s.1 ≤ many.toNat ∧ s.2.1.1.length < 1000000 ∧ Good f s.2.2.1 ∧ loopB f (many.toNat - s.1) s.2.1 s.2.2.1 = R)
    (fun s => [(4, .val (.pointer (some ⟨r, 0, none⟩))), (6, .val (.int .i64 many)), (7, .val (.pointer (some ⟨q, 0, none⟩))), (8, .val (.int .i64 s.1))])
    (fun s => refL q s.2.2.2.1 s.2.2.1.length s.2.2.2.2 f s.2.2.1 ++ [qrd r s.2.1, A]) (fun s => many.toNat - s.1) (0, (s2, 0), [], none, 0)
    ⟨Nat.zero_le _, by dsimp only; omega, Good.nil f, hR⟩ ⟨rfl, rfl, rfl, rfl, trivial⟩ II ?_
  rintro ⟨k, s, ch, a1, cap1⟩ ⟨hk, hl3, hg, hRk⟩
  dsimp only at hk hl3 hg hRk ⊢
  obtain ⟨hi, hv, hs100⟩ := hg.inc
  by_cases hlt : k < many.toNat
  rotate_left
  · have hk0 : many.toNat - k = 0 := by omega
    rw [hk0] at hRk
    have hRk : R = some (s, ch) := hRk.symm
    subst hRk
    dsimp only at hF
    repeat (first | refine GD ?_ | refine NW fun _ => ?_)
    refine WL.step rfl (OP.call (pre := [qrd r s]) rfl rfl (qendr_ok r s) PS rfl rfl ?_)
    rintro _ _ ⟨rfl, rfl⟩
    by_cases hse : s.2 = 0
    rotate_left
    · have hbad : fromM l = none := by rw [hF, if_pos (.inl hse)]
      rw [if_pos hse]
      repeat (first | refine GD ?_ | refine NW fun _ => ?_)
      refine ret2 rfl rfl ⟨[], ?_, II⟩
      unfold QFromPost
      rw [hbad]
      exact ⟨rfl, rfl⟩
    rw [if_neg (not_not_intro hse)]
    by_cases hsl : 0 < s.1.length
    · have hbad : fromM l = none := by rw [hF, if_pos (.inr (fun h => by rw [h] at hsl; simp at hsl))]
      rw [if_pos hsl]
      repeat (first | refine GD ?_ | refine NW fun _ => ?_)
      refine ret2 rfl rfl ⟨[], ?_, II⟩
      unfold QFromPost
      rw [hbad]
      exact ⟨rfl, rfl⟩
    rw [if_neg hsl]
    have hok : fromM l = some (f, ch) := by
      rw [hF, if_neg]
      have : s.1 = [] := List.length_eq_zero_iff.1 (by omega)
      rw [this, hse]
      simp
    repeat (first | refine GD ?_ | refine NW fun _ => ?_)
    refine ret2 rfl rfl ⟨refL q a1 ch.length cap1 f ch, ?_, II⟩
    unfold QFromPost
    rw [hok]
    exact ⟨q, a1, cap1, rfl, rfl⟩
  rw [show many.toNat - k = (many.toNat - (k + 1)) + 1 by omega, loopB_succ] at hRk
  repeat (first | refine GD ?_ | refine NW fun _ => ?_)
  refine WL.step rfl (OP.call (pre := [qrd r s]) rfl rfl (qnum_ok r s hl3) PS rfl rfl ?_)
  rintro _ _ ⟨rfl, rfl⟩
  have b3 := numR_bd s
  generalize numR s = y3 at *
  repeat (first | refine GD ?_ | refine NW fun _ => ?_)
  refine WL.step rfl (OP.call (pre := [qrd r y3.2]) rfl rfl (qnum_ok r y3.2 (by omega)) PS rfl rfl ?_)
  rintro _ _ ⟨rfl, rfl⟩
  have b4 := numR_bd y3.2
  generalize numR y3.2 = y4 at *
  obtain ⟨mark, s3⟩ := y3
  obtain ⟨nn, s4, e4⟩ := y4
  dsimp only at b3 b4 hRk ⊢
  obtain ⟨_, hn0, _⟩ := b4
  have hq4 : qrd r (s4, e4) = blk r [.string (ba s4), .int .i64 e4] 101 := rfl
  rw [hq4]
  by_cases he : e4 = 0
  rotate_left
  · rw [if_pos he] at hRk
    subst hRk
    have hbad : fromM l = none := hF
    repeat (first | refine GD ?_ | refine NW fun _ => ?_)
    refine ret2 rfl rfl ⟨[], ?_, II⟩
    unfold QFromPost
    rw [hbad]
    exact ⟨rfl, rfl⟩
  subst he
  rw [if_neg (by simp)] at hRk
  repeat (first | refine GD ?_ | refine NW fun _ => ?_)
  refine WL.guardT rfl rfl rfl rfl (OP.call (pre := refL q a1 ch.length cap1 f ch) rfl rfl (qchange_ok q a1 cap1 f ch (nn / 2) mark (decide (nn % 2 = 1)) hfl hi hv hs100) PS rfl rfl ?_)
  rintro v M hM
  unfold QChPost at hM
  cases hp : putM f ch (mark, nn / 2, decide (nn % 2 = 1)) with
  | some code =>
    have hcn := putM_ne hp
    rw [hp] at hM hRk
    obtain ⟨rfl, rfl⟩ := hM
    dsimp only at hRk
    subst hRk
    have hbad : fromM l = none := hF
    repeat (first | refine GD ?_ | refine NW fun _ => ?_)
    refine ret2 rfl rfl ⟨[], ?_, II⟩
    unfold QFromPost
    rw [hbad]
    exact ⟨rfl, rfl⟩
  | none =>
    rw [hp] at hM hRk
    obtain ⟨rfl, a5, cap5, rfl⟩ := hM
    dsimp only at hRk
    repeat (first | refine GD ?_ | refine NW fun _ => ?_)
    exact ⟨(k + 1, (s4, 0), ch ++ [(mark, nn / 2, decide (nn % 2 = 1))], a5, cap5), ⟨by dsimp only; omega, by dsimp only; omega, hg.snoc hp, hRk⟩, by dsimp only; omega, ⟨rfl, rfl, rfl, rfl, trivial⟩, by rw [show (ch ++ [(mark, nn / 2, decide (nn % 2 = 1))]).length = ch.length + 1 by simp]; exact II⟩
end Go.Proofs.YtkoakmaihcheaabDoor
/- Contracts of functions of the given program, and plain laws on what they compute: parts of the proofs of laws. -/
namespace Go.Proofs.YtkoakmaihcheaabDoor
open Go Go.GL
theorem op3_of {x : List Value} (h : LfsOk [.int .i64, .int .i64, .int .i64] x) : ∃ o : Op3, x = encO o ∧ ((Lit.int .i64 o.1).wf = true ∧ (Lit.int .i64 o.2.1).wf = true ∧ (Lit.int .i64 o.2.2).wf = true) := by
  obtain ⟨n0, s, rfl, w0, h⟩ := h.int
  obtain ⟨n1, s, rfl, w1, h⟩ := h.int
  obtain ⟨n2, s, rfl, w2, h⟩ := h.int
  rw [h.nil]
  exact ⟨(n0, n1, n2), rfl, w0, w1, w2⟩
end Go.Proofs.YtkoakmaihcheaabDoor
/- Contracts of functions of the given program, and plain laws on what they compute: parts of the proofs of laws. -/

namespace Go.Proofs.YtkoakmaihcheaabDoor
open Go Go.GL

set_option maxHeartbeats 8000000 in
set_option maxRecDepth 10000 in
theorem mbytes_ro (s : ByteArray) (a b : Option Addr) (n c m c2 : Nat) (l : List Int) (ops : List Op3) (mark : Int) :
    RO G 7 [.string s, .slice a n c, .slice b m c2, .int .i64 mark] (fun h => ErrT h ∧ readS a n 1 (l.map vI) h ∧ readS b m 3 (encOs ops) h) (.bool true) := by
  refine RO.enter Tryd.func7 rfl (by decide) rfl Tryd.ntmps7 rfl (fun A hu hA => ?_) (up_and up_ErrT (up_and (up_readS _ _ _ _) (up_readS _ _ _ _)))
  have hER : ∀ {L}, A ∈ L → Ent L ErrT := fun m => Ent.mem m hu fun k x => (hA k x).1
  have hE1 : ∀ {L}, A ∈ L → Ent L (readS a n 1 (l.map vI)) := fun m => Ent.mem m hu fun k x => (hA k x).2.1
  have hE2 : ∀ {L}, A ∈ L → Ent L (readS b m 3 (encOs ops)) := fun m => Ent.mem m hu fun k x => (hA k x).2.2
  refine WC.fact (Ent.len (hE2 MM)) (fun hlen => ?_)
  have hm : m = ops.length := by
    have : (encOs ops).length = ops.length * 3 := GL.flat_len (f := encO) (z := 3) (fun _ => rfl) ops
    omega
  repeat (first | refine GO ?_ | refine NW fun _ => ?_)
  refine WL.step rfl (OP.callRO rfl rfl awake_ro (fun _ _ => trivial) rfl rfl ?_)
  by_cases h2000 : 2000 < s.size
  · repeat (first | refine GD ?_ | refine NW fun _ => ?_)
    refine WL.step rfl (OP.callRO rfl rfl awake_ro (fun _ _ => trivial) rfl rfl ?_)
    repeat (first | refine GD ?_ | refine NW fun _ => ?_)
    exact ret1 rfl ⟨rfl, MM⟩
  by_cases h20 : 20 < n
  · repeat (first | refine GD ?_ | refine NW fun _ => ?_)
    refine WL.step rfl (OP.callRO rfl rfl awake_ro (fun _ _ => trivial) rfl rfl ?_)
    repeat (first | refine GD ?_ | refine NW fun _ => ?_)
    exact ret1 rfl ⟨rfl, MM⟩
  by_cases h200 : 200 < m
  · repeat (first | refine GD ?_ | refine NW fun _ => ?_)
    refine WL.step rfl (OP.callRO rfl rfl awake_ro (fun _ _ => trivial) rfl rfl ?_)
    repeat (first | refine GD ?_ | refine NW fun _ => ?_)
    exact ret1 rfl ⟨rfl, MM⟩
  have hsl : s.size = s.data.toList.length := Array.length_toList.symm
  have hq := qfromB_ok s.data.toList (by omega)
  rw [ba_data] at hq
  repeat (first | refine GD ?_ | refine NW fun _ => ?_)
  refine WL.step rfl (OP.toBytes rfl rfl rfl rfl rfl rfl rfl rfl rfl rfl (fun q0 cap0 => ?_))
  refine WL.fact (Ent.ownLe (a := some ⟨q0, 0, none⟩) (n := s.size) (cap := cap0) (T := 5) (size := 1) (cs := strCells s) MM) (fun hc0 => ?_)
  refine WL.step rfl (OP.callRT rfl rfl (fromB_ok (some ⟨q0, 0, none⟩) s.size cap0 s.data.toList hsl hc0 (by omega)) (Ent.own MM) rfl rfl ?_)
  rintro v E hE
  unfold FromPost at hE
  unfold QFromPost at hq
  cases hfm : fromM s.data.toList with
  | none =>
    rw [hfm] at hE hq
    dsimp only at hq
    obtain ⟨e, rfl, b', rfl, rfl⟩ := hE
    repeat (first | refine GD ?_ | refine NW fun _ => ?_)
    refine WL.step rfl (OP.callRT rfl rfl hq (fun _ _ => trivial) rfl rfl ?_)
    rintro v E ⟨rfl, rfl⟩
    repeat (first | refine GD ?_ | refine NW fun _ => ?_)
    refine WL.step rfl (OP.callRO rfl rfl (place_fault b' 0 1 0 1 (by decide)) (Ent.and (hER MM) (Ent.whole (c := faultCells member 0 1) (T := 87) MM)) rfl rfl ?_)
    rw [decide_eq_true ⟨rfl, rfl⟩]
    repeat (first | refine GD ?_ | refine NW fun _ => ?_)
    refine WL.imp (M := [A]) II ?_
    refine WL.step rfl (OP.callRT rfl rfl (new_ok a n c l (by omega)) (hE1 MM) rfl rfl ?_)
    rintro v E hE
    unfold NewPost at hE
    split at hE
    rotate_left
    · obtain ⟨e, rfl, b', rfl, rfl⟩ := hE
      repeat (first | refine GO ?_ | refine NW fun _ => ?_)
      exact ret1 rfl ⟨rfl, MM⟩
    rename_i f hf
    obtain ⟨p, rfl, rfl⟩ := hE
    have hfl : f.length = 4 := newM_length hf
    repeat (first | refine GD ?_ | refine NW fun _ => ?_)
    refine WL.step rfl (OP.call (pre := grpL p none 0 0 f [] ++ [A]) (F := []) rfl rfl (play_ok p none 0 f [] b m c2 ops A hu (fun h x => (hA h x).2.2) hfl (fun _ h => by cases h) (by decide) hm (by omega)) (Imp.trans (Imp.nilS 75 3) II) rfl rfl ?_)
    rintro v M ⟨rfl, a1, cap1, rfl⟩
    have hg := good_play (f := f) ops (Good.nil f)
    generalize playM f [] ops = ch at *
    obtain ⟨hi, hv, hs⟩ := hg.inc
    have hR : ∀ {L} {p a1 cap1}, blk p (bools f ++ [.slice a1 ch.length cap1]) 69 ∈ L → ownS a1 ch.length cap1 75 3 (encL ch) ∈ L → Ent L (grpR p a1 cap1 f ch) := fun m1 m2 => Ent.and (Ent.whole m1) (Ent.own m2)
    refine WL.fact (Ent.ownLe (a := a1) (n := ch.length) (cap := cap1) (T := 75) (size := 3) (cs := encL ch) MM) (fun hc => ?_)
    have hback := fromM_bytes hfl hg
    have hgb := fun p a1 cap1 => gbytes_ok p a1 cap1 f ch hfl hv hs
    have hbl : (bytesM f ch).length < 1000000 := by
      have h1 := numB_nine (bitsM f)
      have h2 := numB_nine ch.length
      have h3 := chBs_len ch
      unfold bytesM
      rw [List.length_append, List.length_append]
      omega
    generalize bytesM f ch = bl at *
    repeat (first | refine GD ?_ | refine NW fun _ => ?_)
    refine WL.step rfl (OP.callRT rfl rfl (hgb p a1 cap1) (hR MM MM) rfl rfl ?_)
    rintro v E ⟨a2, cap2, rfl, rfl⟩
    refine WL.fact (Ent.ownLe (a := a2) (n := bl.length) (cap := cap2) (T := 5) (size := 1) (cs := bl.map byteV) MM) (fun hc2 => ?_)
    refine WL.step rfl (OP.callRT rfl rfl (fromB_ok a2 bl.length cap2 bl rfl hc2 hbl) (Ent.own (T := 5) MM) rfl rfl ?_)
    rintro v E hE
    unfold FromPost at hE
    rw [hback] at hE
    obtain ⟨p2, a3, cap3, rfl, rfl⟩ := hE
    refine WL.fact (Ent.ownLe (a := a3) (n := ch.length) (cap := cap3) (T := 75) (size := 3) (cs := encL ch) MM) (fun hc3 => ?_)
    have hla := listM_len (after f (ch.take (cnt mark ch)))
    have hlb := listM_len (after f ch)
    rw [after_length] at hla hlb
    have hat := fun p a1 cap1 hc => at_ok p a1 cap1 f ch mark hfl hv hc (by omega)
    have hnow := fun p a1 cap1 hc => now_ok p a1 cap1 f ch hfl hv hc (by omega)
    have hlast := fun p a1 cap1 => last_ro p a1 cap1 f ch hfl (by omega)
    generalize listM (after f (ch.take (cnt mark ch))) = lA at *
    generalize listM (after f ch) = lB at *
    generalize lastM ch = lm at *
    have hsA := fun x y z w => same_ro x y lA.length z lA.length w lA lA rfl rfl (by omega) (by omega)
    have hsB := fun x y z w => same_ro x y lB.length z lB.length w lB lB rfl rfl (by omega) (by omega)
    repeat (first | refine GD ?_ | refine NW fun _ => ?_)
    refine RD 35 35 (_) ?_
    refine VV 0 ?_
    refine VV 1 ?_
    refine VV 2 ?_
    refine VV 3 ?_
    refine VV 6 ?_
    refine WH.onlyG (q := true) 4 rfl rfl rfl rfl rfl rfl rfl (by kernel_rfl) rfl (.inl rfl) (fun _ => OP.callRT rfl rfl (hgb p2 a3 cap3) (hR MM MM) rfl rfl (fun v E hE' => ?_)) (fun h => nomatch h)
    obtain ⟨a4, cap4, rfl, rfl⟩ := hE'
    refine ⟨fun _ => II, ?_⟩
    refine WH.more _ II (Imp.refl _) ?_
    refine VG 5 rfl (Quiet.toStr (sv := ba bl) rfl rfl rfl rfl rfl rfl rfl rfl (by rw [strCells_ba]; exact Ent.own (T := 5) MM)) ?_
    refine WH.onlyG (q := true) 7 rfl rfl rfl rfl rfl rfl rfl (by kernel_rfl) rfl (.inl rfl) (fun _ => OP.callRT rfl rfl (hgb p a1 cap1) (hR MM MM) rfl rfl (fun v E hE' => ?_)) (fun h => nomatch h)
    obtain ⟨a5, cap5, rfl, rfl⟩ := hE'
    refine ⟨fun _ => II, ?_⟩
    refine WH.more _ II (Imp.refl _) ?_
    refine VG 8 rfl (Quiet.toStr (sv := ba bl) rfl rfl rfl rfl rfl rfl rfl rfl (by rw [strCells_ba]; exact Ent.own (T := 5) MM)) ?_
    refine VV 9 ?_
    rw [decide_eq_true rfl]
    refine VV 10 ?_
    refine VV 11 ?_
    refine VV 12 ?_
    refine VV 14 ?_
    refine WH.onlyG (q := true) 13 rfl rfl rfl rfl rfl rfl rfl (by kernel_rfl) rfl (.inl rfl) (fun _ => OP.callRT rfl rfl (hnow p2 a3 cap3 hc3) (hR MM MM) rfl rfl (fun v E hE' => ?_)) (fun h => nomatch h)
    obtain ⟨a6, cap6, rfl, rfl⟩ := hE'
    refine ⟨fun _ => II, ?_⟩
    refine WH.onlyG (q := true) 15 rfl rfl rfl rfl rfl rfl rfl (by kernel_rfl) rfl (.inl rfl) (fun _ => OP.callRT rfl rfl (hnow p a1 cap1 hc) (hR MM MM) rfl rfl (fun v E hE' => ?_)) (fun h => nomatch h)
    obtain ⟨a7, cap7, rfl, rfl⟩ := hE'
    refine ⟨fun _ => II, ?_⟩
    refine WH.onlyG (q := true) 16 rfl rfl rfl rfl rfl rfl rfl (by kernel_rfl) rfl (.inl rfl) (fun _ => OP.callRO rfl rfl (hsB _ _ _ _) (Ent.and (Ent.own (T := 3) MM) (Ent.own (T := 3) MM)) rfl rfl ⟨fun _ => II, ?_⟩) (fun h => nomatch h)
    rw [decide_eq_true rfl]
    refine VV 17 ?_
    refine VV 18 ?_
    refine VV 19 ?_
    refine VV 20 ?_
    refine VV 22 ?_
    refine VV 23 ?_
    refine WH.onlyG (q := true) 21 rfl rfl rfl rfl rfl rfl rfl (by kernel_rfl) rfl (.inl rfl) (fun _ => OP.callRT rfl rfl (hat p2 a3 cap3 hc3) (hR MM MM) rfl rfl (fun v E hE' => ?_)) (fun h => nomatch h)
    obtain ⟨a8, cap8, rfl, rfl⟩ := hE'
    refine ⟨fun _ => II, ?_⟩
    refine WH.onlyG (q := true) 24 rfl rfl rfl rfl rfl rfl rfl (by kernel_rfl) rfl (.inl rfl) (fun _ => OP.callRT rfl rfl (hat p a1 cap1 hc) (hR MM MM) rfl rfl (fun v E hE' => ?_)) (fun h => nomatch h)
    obtain ⟨a9, cap9, rfl, rfl⟩ := hE'
    refine ⟨fun _ => II, ?_⟩
    refine WH.onlyG (q := true) 25 rfl rfl rfl rfl rfl rfl rfl (by kernel_rfl) rfl (.inl rfl) (fun _ => OP.callRO rfl rfl (hsA _ _ _ _) (Ent.and (Ent.own (T := 3) MM) (Ent.own (T := 3) MM)) rfl rfl ⟨fun _ => II, ?_⟩) (fun h => nomatch h)
    rw [decide_eq_true rfl]
    refine VV 26 ?_
    refine VV 27 ?_
    refine VV 28 ?_
    refine VV 30 ?_
    refine WH.onlyG (q := true) 29 rfl rfl rfl rfl rfl rfl rfl (by kernel_rfl) rfl (.inl rfl) (fun _ => OP.callRO rfl rfl (hlast p2 a3 cap3) (hR MM MM) rfl rfl ⟨fun _ => II, ?_⟩) (fun h => nomatch h)
    refine WH.onlyG (q := true) 31 rfl rfl rfl rfl rfl rfl rfl (by kernel_rfl) rfl (.inl rfl) (fun _ => OP.callRO rfl rfl (hlast p a1 cap1) (hR MM MM) rfl rfl ⟨fun _ => II, ?_⟩) (fun h => nomatch h)
    refine VV 32 ?_
    rw [decide_eq_true rfl]
    refine VV 33 ?_
    refine VV 34 ?_
    refine DN ?_
    repeat (first | refine GD ?_ | refine NW fun _ => ?_)
    exact ret1 rfl ⟨rfl, MM⟩
  | some x =>
    obtain ⟨f, ch⟩ := x
    rw [hfm] at hE hq
    dsimp only at hq
    obtain ⟨p, a1, cap1, rfl, rfl⟩ := hE
    obtain ⟨hfl, hg, hbs⟩ := fromM_some hfm
    obtain ⟨hi, hv, hs⟩ := hg.inc
    have hR : ∀ {L} {a1 cap1}, blk p (bools f ++ [.slice a1 ch.length cap1]) 69 ∈ L → ownS a1 ch.length cap1 75 3 (encL ch) ∈ L → Ent L (grpR p a1 cap1 f ch) := fun m1 m2 => Ent.and (Ent.whole m1) (Ent.own m2)
    have hQ : ∀ {L} {q a1 cap1}, blk q (ints4 f ++ [.slice a1 ch.length cap1]) 91 ∈ L → ownS a1 ch.length cap1 94 3 (encL ch) ∈ L → Ent L (refR q a1 cap1 f ch) := fun m1 m2 => Ent.and (Ent.whole m1) (Ent.own m2)
    refine WL.fact (Ent.ownLe (a := a1) (n := ch.length) (cap := cap1) (T := 75) (size := 3) (cs := encL ch) MM) (fun hc => ?_)
    repeat (first | refine GD ?_ | refine NW fun _ => ?_)
    refine WL.step rfl (OP.callRT rfl rfl hq (fun _ _ => trivial) rfl rfl ?_)
    rintro v E ⟨q, a3, cap3, rfl, rfl⟩
    have hgb := gbytes_ok p a1 cap1 f ch hfl hv hs
    rw [hbs] at hgb
    have hat := at_ok p a1 cap1 f ch mark hfl hv hc (by omega)
    have hqat := qat_ok q a3 cap3 f ch mark hfl (by omega)
    rw [listQ_at hi hv hfl] at hqat
    have hla := listM_len (after f (ch.take (cnt mark ch)))
    rw [after_length] at hla
    unfold atM at hqat
    generalize listM (after f (ch.take (cnt mark ch))) = lA at *
    have hsA := fun x y z w => same_ro x y lA.length z lA.length w lA lA rfl rfl (by omega) (by omega)
    repeat (first | refine GD ?_ | refine NW fun _ => ?_)
    refine WL.step rfl (OP.callRO rfl rfl (place_nil 0 0) (fun _ _ => trivial) rfl rfl ?_)
    rw [decide_eq_true rfl]
    repeat (first | refine GD ?_ | refine NW fun _ => ?_)
    refine WL.guardT rfl rfl rfl rfl (OP.callRT rfl rfl hgb (hR MM MM) rfl rfl ?_)
    rintro v E ⟨a4, cap4, rfl, rfl⟩
    repeat (first | refine GD ?_ | refine NW fun _ => ?_)
    refine WL.guardT rfl rfl rfl rfl (OP.toStr (sv := s) rfl rfl rfl rfl rfl rfl rfl rfl (Ent.own (T := 5) MM) rfl rfl ?_)
    have hss : s = s := rfl
    repeat (first | refine GD ?_ | refine NW fun _ => ?_)
    refine WL.guardT rfl rfl rfl rfl (OP.callRT rfl rfl hat (hR MM MM) rfl rfl ?_)
    rintro v E ⟨a5, cap5, rfl, rfl⟩
    repeat (first | refine GD ?_ | refine NW fun _ => ?_)
    refine WL.guardT rfl rfl rfl rfl (OP.callRT rfl rfl hqat (hQ MM MM) rfl rfl ?_)
    rintro v E ⟨a6, cap6, rfl, rfl⟩
    repeat (first | refine GD ?_ | refine NW fun _ => ?_)
    refine WL.guardT rfl rfl rfl rfl (OP.callRO rfl rfl (hsA _ _ _ _) (Ent.and (Ent.own (T := 3) MM) (Ent.own (T := 3) MM)) rfl rfl ?_)
    rw [decide_eq_true rfl]
    repeat (first | refine GD ?_ | refine NW fun _ => ?_)
    refine WL.imp (M := [A]) II ?_
    refine WL.step rfl (OP.callRT rfl rfl (new_ok a n c l (by omega)) (hE1 MM) rfl rfl ?_)
    rintro v E hE
    unfold NewPost at hE
    split at hE
    rotate_left
    · obtain ⟨e, rfl, b', rfl, rfl⟩ := hE
      repeat (first | refine GO ?_ | refine NW fun _ => ?_)
      exact ret1 rfl ⟨rfl, MM⟩
    rename_i f hf
    obtain ⟨p, rfl, rfl⟩ := hE
    have hfl : f.length = 4 := newM_length hf
    repeat (first | refine GD ?_ | refine NW fun _ => ?_)
    refine WL.step rfl (OP.call (pre := grpL p none 0 0 f [] ++ [A]) (F := []) rfl rfl (play_ok p none 0 f [] b m c2 ops A hu (fun h x => (hA h x).2.2) hfl (fun _ h => by cases h) (by decide) hm (by omega)) (Imp.trans (Imp.nilS 75 3) II) rfl rfl ?_)
    rintro v M ⟨rfl, a1, cap1, rfl⟩
    have hg := good_play (f := f) ops (Good.nil f)
    generalize playM f [] ops = ch at *
    obtain ⟨hi, hv, hs⟩ := hg.inc
    have hR : ∀ {L} {p a1 cap1}, blk p (bools f ++ [.slice a1 ch.length cap1]) 69 ∈ L → ownS a1 ch.length cap1 75 3 (encL ch) ∈ L → Ent L (grpR p a1 cap1 f ch) := fun m1 m2 => Ent.and (Ent.whole m1) (Ent.own m2)
    refine WL.fact (Ent.ownLe (a := a1) (n := ch.length) (cap := cap1) (T := 75) (size := 3) (cs := encL ch) MM) (fun hc => ?_)
    have hback := fromM_bytes hfl hg
    have hgb := fun p a1 cap1 => gbytes_ok p a1 cap1 f ch hfl hv hs
    have hbl : (bytesM f ch).length < 1000000 := by
      have h1 := numB_nine (bitsM f)
      have h2 := numB_nine ch.length
      have h3 := chBs_len ch
      unfold bytesM
      rw [List.length_append, List.length_append]
      omega
    generalize bytesM f ch = bl at *
    repeat (first | refine GD ?_ | refine NW fun _ => ?_)
    refine WL.step rfl (OP.callRT rfl rfl (hgb p a1 cap1) (hR MM MM) rfl rfl ?_)
    rintro v E ⟨a2, cap2, rfl, rfl⟩
    refine WL.fact (Ent.ownLe (a := a2) (n := bl.length) (cap := cap2) (T := 5) (size := 1) (cs := bl.map byteV) MM) (fun hc2 => ?_)
    refine WL.step rfl (OP.callRT rfl rfl (fromB_ok a2 bl.length cap2 bl rfl hc2 hbl) (Ent.own (T := 5) MM) rfl rfl ?_)
    rintro v E hE
    unfold FromPost at hE
    rw [hback] at hE
    obtain ⟨p2, a3, cap3, rfl, rfl⟩ := hE
    refine WL.fact (Ent.ownLe (a := a3) (n := ch.length) (cap := cap3) (T := 75) (size := 3) (cs := encL ch) MM) (fun hc3 => ?_)
    have hla := listM_len (after f (ch.take (cnt mark ch)))
    have hlb := listM_len (after f ch)
    rw [after_length] at hla hlb
    have hat := fun p a1 cap1 hc => at_ok p a1 cap1 f ch mark hfl hv hc (by omega)
    have hnow := fun p a1 cap1 hc => now_ok p a1 cap1 f ch hfl hv hc (by omega)
    have hlast := fun p a1 cap1 => last_ro p a1 cap1 f ch hfl (by omega)
    generalize listM (after f (ch.take (cnt mark ch))) = lA at *
    generalize listM (after f ch) = lB at *
    generalize lastM ch = lm at *
    have hsA := fun x y z w => same_ro x y lA.length z lA.length w lA lA rfl rfl (by omega) (by omega)
    have hsB := fun x y z w => same_ro x y lB.length z lB.length w lB lB rfl rfl (by omega) (by omega)
    repeat (first | refine GD ?_ | refine NW fun _ => ?_)
    refine RD 35 35 (_) ?_
    refine VV 0 ?_
    refine VV 1 ?_
    refine VV 2 ?_
    refine VV 3 ?_
    refine VV 6 ?_
    refine WH.onlyG (q := true) 4 rfl rfl rfl rfl rfl rfl rfl (by kernel_rfl) rfl (.inl rfl) (fun _ => OP.callRT rfl rfl (hgb p2 a3 cap3) (hR MM MM) rfl rfl (fun v E hE' => ?_)) (fun h => nomatch h)
    obtain ⟨a4, cap4, rfl, rfl⟩ := hE'
    refine ⟨fun _ => II, ?_⟩
    refine WH.more _ II (Imp.refl _) ?_
    refine VG 5 rfl (Quiet.toStr (sv := ba bl) rfl rfl rfl rfl rfl rfl rfl rfl (by rw [strCells_ba]; exact Ent.own (T := 5) MM)) ?_
    refine WH.onlyG (q := true) 7 rfl rfl rfl rfl rfl rfl rfl (by kernel_rfl) rfl (.inl rfl) (fun _ => OP.callRT rfl rfl (hgb p a1 cap1) (hR MM MM) rfl rfl (fun v E hE' => ?_)) (fun h => nomatch h)
    obtain ⟨a5, cap5, rfl, rfl⟩ := hE'
    refine ⟨fun _ => II, ?_⟩
    refine WH.more _ II (Imp.refl _) ?_
    refine VG 8 rfl (Quiet.toStr (sv := ba bl) rfl rfl rfl rfl rfl rfl rfl rfl (by rw [strCells_ba]; exact Ent.own (T := 5) MM)) ?_
    refine VV 9 ?_
    rw [decide_eq_true rfl]
    refine VV 10 ?_
    refine VV 11 ?_
    refine VV 12 ?_
    refine VV 14 ?_
    refine WH.onlyG (q := true) 13 rfl rfl rfl rfl rfl rfl rfl (by kernel_rfl) rfl (.inl rfl) (fun _ => OP.callRT rfl rfl (hnow p2 a3 cap3 hc3) (hR MM MM) rfl rfl (fun v E hE' => ?_)) (fun h => nomatch h)
    obtain ⟨a6, cap6, rfl, rfl⟩ := hE'
    refine ⟨fun _ => II, ?_⟩
    refine WH.onlyG (q := true) 15 rfl rfl rfl rfl rfl rfl rfl (by kernel_rfl) rfl (.inl rfl) (fun _ => OP.callRT rfl rfl (hnow p a1 cap1 hc) (hR MM MM) rfl rfl (fun v E hE' => ?_)) (fun h => nomatch h)
    obtain ⟨a7, cap7, rfl, rfl⟩ := hE'
    refine ⟨fun _ => II, ?_⟩
    refine WH.onlyG (q := true) 16 rfl rfl rfl rfl rfl rfl rfl (by kernel_rfl) rfl (.inl rfl) (fun _ => OP.callRO rfl rfl (hsB _ _ _ _) (Ent.and (Ent.own (T := 3) MM) (Ent.own (T := 3) MM)) rfl rfl ⟨fun _ => II, ?_⟩) (fun h => nomatch h)
    rw [decide_eq_true rfl]
    refine VV 17 ?_
    refine VV 18 ?_
    refine VV 19 ?_
    refine VV 20 ?_
    refine VV 22 ?_
    refine VV 23 ?_
    refine WH.onlyG (q := true) 21 rfl rfl rfl rfl rfl rfl rfl (by kernel_rfl) rfl (.inl rfl) (fun _ => OP.callRT rfl rfl (hat p2 a3 cap3 hc3) (hR MM MM) rfl rfl (fun v E hE' => ?_)) (fun h => nomatch h)
    obtain ⟨a8, cap8, rfl, rfl⟩ := hE'
    refine ⟨fun _ => II, ?_⟩
    refine WH.onlyG (q := true) 24 rfl rfl rfl rfl rfl rfl rfl (by kernel_rfl) rfl (.inl rfl) (fun _ => OP.callRT rfl rfl (hat p a1 cap1 hc) (hR MM MM) rfl rfl (fun v E hE' => ?_)) (fun h => nomatch h)
    obtain ⟨a9, cap9, rfl, rfl⟩ := hE'
    refine ⟨fun _ => II, ?_⟩
    refine WH.onlyG (q := true) 25 rfl rfl rfl rfl rfl rfl rfl (by kernel_rfl) rfl (.inl rfl) (fun _ => OP.callRO rfl rfl (hsA _ _ _ _) (Ent.and (Ent.own (T := 3) MM) (Ent.own (T := 3) MM)) rfl rfl ⟨fun _ => II, ?_⟩) (fun h => nomatch h)
    rw [decide_eq_true rfl]
    refine VV 26 ?_
    refine VV 27 ?_
    refine VV 28 ?_
    refine VV 30 ?_
    refine WH.onlyG (q := true) 29 rfl rfl rfl rfl rfl rfl rfl (by kernel_rfl) rfl (.inl rfl) (fun _ => OP.callRO rfl rfl (hlast p2 a3 cap3) (hR MM MM) rfl rfl ⟨fun _ => II, ?_⟩) (fun h => nomatch h)
    refine WH.onlyG (q := true) 31 rfl rfl rfl rfl rfl rfl rfl (by kernel_rfl) rfl (.inl rfl) (fun _ => OP.callRO rfl rfl (hlast p a1 cap1) (hR MM MM) rfl rfl ⟨fun _ => II, ?_⟩) (fun h => nomatch h)
    refine VV 32 ?_
    rw [decide_eq_true rfl]
    refine VV 33 ?_
    refine VV 34 ?_
    refine DN ?_
    repeat (first | refine GD ?_ | refine NW fun _ => ?_)
    exact ret1 rfl ⟨rfl, MM⟩
end Go.Proofs.YtkoakmaihcheaabDoor
namespace Go.Proofs.YtkoakmaihcheaabDoor
open Go Go.GL Go.ChangeShapes Go.WideShapes Go.ChangeAt Go.RowKit
open Go.ChangeMaps (open_string shut_string)
set_option linter.unusedVariables false

theorem ownMemberBytes : ownKnob Tryd.prog.godebug = none := by kernel_rfl
theorem laidOutMemberBytes : laidOutB Tryd.prog = true := by kernel_rfl
theorem etMemberBytes : Tryd.prog.globalNamed "errors.errorType" = some 0 := by kernel_rfl
theorem rtMemberBytes : (Tryd.prog.cutTypes.find? (·.1 == "internal/reflectlite.rtype")).map (·.2) = some 126 := by kernel_rfl
theorem oneRowMemberBytes : ((List.range 172).filter fun t => Tryd.prog.rowNamed t [101, 114, 114, 111, 114]) = [26] := by kernel_rfl
theorem sizeMemberBytes : Tryd.prog.types.size = 172 := by kernel_rfl
theorem handleMemberBytes {W : World} (h : laidMetH Tryd.prog [("errors.errorType", Rows.laid_errors_errorType)] W) : W.cell? ⟨0, 0, none⟩ = some errT := by
  have h' : laidMet Tryd.prog [] W ∧ handlesMet Tryd.prog [("errors.errorType", Rows.laid_errors_errorType)] W := h
  obtain ⟨name, u, ty, e1, e2, e3, e4, e5⟩ := h'.2 _ (List.mem_singleton.2 rfl)
  have en : name = [101, 114, 114, 111, 114] := (Option.some.inj e1).symm
  subst en
  obtain rfl := Option.some.inj (rtMemberBytes.symm.trans e2)
  have hm : ty ∈ (List.range 172).filter fun t => Tryd.prog.rowNamed t [101, 114, 114, 111, 114] := List.mem_filter.2 ⟨List.mem_range.2 (by rw [← sizeMemberBytes]; exact e3), e4⟩
  rw [oneRowMemberBytes] at hm
  obtain rfl := List.mem_singleton.1 hm
  have hh : typeHandle Tryd.prog 26 = .pointer (some ⟨1, 26, none⟩) := by kernel_rfl
  rw [hh] at e5
  have := World.var?_cell etMemberBytes e5 0
  simpa [errT, rt, hd] using this
theorem cellAt_of {w : World} {b off : Nat} {v : Value} (h : w.cell? ⟨b, off, none⟩ = some v) : cellAt b off v (hpOf w) := by
  unfold World.cell? at h
  split at h
  · rename_i c T fr hb
    exact ⟨c, T, fr, hpOf_obj.2 hb, by simpa using h⟩
  · cases h
noncomputable def laidWorld (os : Os) : World :=
  let w0 := World.holding Tryd.prog os ⟨#[], #[], []⟩
  { w0 with heap := w0.heap.modify 0 fun
      | .cells _ t frozen => .cells #[.iface 126 (.agg #[.pointer (some ⟨1, 26, none⟩)])] t frozen
      | o => o }
theorem laidWorld_met (os : Os) (args : Array Value) : laidMetH Tryd.prog [("errors.errorType", Rows.laid_errors_errorType)] ((laidWorld os).forCall (fun _ _ => 0) ⟨#[], args, []⟩).memory :=
  laidMetH_of_parts (laidMet_nil _ _) (by kernel_rfl)
set_option maxRecDepth 100000 in
theorem liftedMemberBytes (os : Os) (started : os.Started) (H : Type) (enc : TypeId × Value → H) :
    ReturnsInHanded {} Tryd.checked os 7 .any (fun w args => (Rows.memberBytesSpec.pre enc Tryd.prog Tryd.f7 [] false w args ∧ laidMetH Tryd.prog [("errors.errorType", Rows.laid_errors_errorType)] w) ∧ sizedMet enc Tryd.prog Tryd.f7 (OpenSpec.ofChange Rows.memberBytesSpec) false w args)
      (Rows.memberBytesSpec.post enc Tryd.prog Tryd.f7 false true false false) := by
  refine returnsInHanded_of_change_and (C := Tryd.checked) (X := fun w _ => laidMetH Tryd.prog [("errors.errorType", Rows.laid_errors_errorType)] w) (fun _ _ _ hh h => h.of_heap hh) ownMemberBytes started (by kernel_rfl) Tryd.func7
    (ChangeSpec.witness_at (enc := enc) (C := Tryd.checked) (os := os) (X := fun w _ => laidMetH Tryd.prog [("errors.errorType", Rows.laid_errors_errorType)] w) false (laidWorld os) #[.string ByteArray.empty, .slice none 0 0, .slice none 0 0, .int .i64 0] 8 rfl (by kernel_rfl) (by kernel_rfl) (by kernel_rfl) (by kernel_rfl) (by kernel_rfl) (laidWorld_met os _)) ?_
  intro W base args ds gs before hval0 hW _ _ hL _
  have hval : ∀ (j : Nat) t v, Tryd.f7.params[j]? = some t → args[j]? = some v → Value.okWide Tryd.prog W .any base t v := hval0
  have hW' := hW
  obtain ⟨p, q, hA0, hV0, rfl, hfz, hnd⟩ := hW
  have hV : DataW.TrodVars enc Tryd.prog W (fun _ => true) [] gs q := hV0
  have hE := cellAt_of (handleMemberBytes hL)
  have hA : DataW.TrodAll enc Tryd.prog W 0 (fun _ => true) true Tryd.f7.params.toList args.toList ds p := hA0
  rw [Tryd.params7] at hA hval
  obtain ⟨v0, vs0, d0, ds0, p0, q0, hargs, rfl, rfl, h0, r0⟩ := trodAll_cons hA
  obtain ⟨v1, vs1, d1, ds1, p1, q1, rfl, rfl, rfl, h1, r1⟩ := trodAll_cons r0
  obtain ⟨v2, vs2, d2, ds2, p2, q2, rfl, rfl, rfl, h2, r2⟩ := trodAll_cons r1
  obtain ⟨v3, vs3, d3, ds3, p3, q3, rfl, rfl, rfl, h3, r3⟩ := trodAll_cons r2
  obtain ⟨rfl, rfl, rfl⟩ := trodAll_nil r3
  obtain rfl : args = #[v0, v1, v2, v3] := by cases args; simp_all
  obtain ⟨rfl, rfl⟩ : gs = [] ∧ q = [] := by
    cases gs with
    | nil => exact ⟨rfl, hV⟩
    | cons g r => exact absurd hV (by intro h; cases h)
  have k0 := h0
  obtain ⟨a0, rfl, _, _, w0⟩ := open_string Tryd.underlying9 (hval 0 9 v0 rfl rfl) h0
  have k1 := h1
  obtain ⟨a1, len1, cap1, rw1, rfl, hr1, hc1, hm1, ho1, R1⟩ := open_row (n := 4) (l := [.int .i64]) Tryd.underlying22 (by kernel_rfl) (by kernel_rfl) (hval 1 22 v1 rfl rfl) h1
  obtain ⟨l1, hl1, hn1, w1⟩ := rows_ints ho1
  rw [hl1] at R1
  rw [hr1] at hn1
  have k2 := h2
  obtain ⟨a2, len2, cap2, rw2, rfl, hr2, hc2, hm2, ho2, R2⟩ := open_row (n := 8) (l := [.int .i64, .int .i64, .int .i64]) Tryd.underlying47 (by kernel_rfl) (by kernel_rfl) (hval 2 47 v2 rfl rfl) h2
  obtain ⟨l2, hl2, hn2, w2⟩ := rows_enc (fun x hx => op3_of (ho2 x hx))
  rw [hl2] at R2
  rw [hr2] at hn2
  have k3 := h3
  obtain ⟨a3, rfl, _, _, w3⟩ := open_int Tryd.underlying3 (hval 3 3 v3 rfl rfl) h3
  clear hA0 hval0
  refine ((mbytes_ro a0 a1 a2 len1 cap1 len2 cap2 l1 l2 a3).calls W ⟨hE, R1, R2⟩).mono fun e W' ⟨he, ext⟩ => ?_
  subst he
  exact ⟨_, rfl, _, _, _, [], _, [], hW', trodAll_mk1 (shut_bool Tryd.underlying4 _), (trodAll_cons_mk (GL.Ext.trod laidOutMemberBytes (by kernel_rfl) (of_decide_eq_true (by kernel_rfl)) k0 ext) (trodAll_cons_mk (GL.Ext.trod laidOutMemberBytes (by kernel_rfl) (of_decide_eq_true (by kernel_rfl)) k1 ext) (trodAll_cons_mk (GL.Ext.trod laidOutMemberBytes (by kernel_rfl) (of_decide_eq_true (by kernel_rfl)) k2 ext) (trodAll_cons_mk (GL.Ext.trod laidOutMemberBytes (by kernel_rfl) (of_decide_eq_true (by kernel_rfl)) k3 ext) trodAll_mk0)))), rfl, ext.keptBut _, fun h => by cases h⟩
theorem overMemberBytes : Rows.memberBytesRow.holds Tryd.pinned (OpenSpec.ofChange Rows.memberBytesSpec) :=
  OpenClaim.holds_of_wide 7 Tryd.f7 rfl rfl rfl rfl rfl rfl rfl ⟨rfl, rfl, rfl, rfl, rfl⟩ rfl rfl rfl rfl rfl (by kernel_rfl) Tryd.func7 (by kernel_rfl)
    (of_decide_eq_true (by kernel_rfl)) (by unfold Func.isWrapper; first | (rw [if_pos (by decide +kernel)]; kernel_rfl) | (rw [if_neg (by decide +kernel)]; exact ⟨rfl, rfl⟩))
    (fun os started H enc _ => liftedMemberBytes os started H enc)
theorem memberBytes_holds : Rows.MemberBytesCardSaid :=
  Claim7.holds_tied_plain_at .later [] [.handle] true (true, "e084122bf2cf5272e768f4b925436023dd162b65986d845f0bf97ddaef5d5f94") true
    overMemberBytes (fun _ h => by cases h) (by kernel_rfl) (fun _ h => by cases h) memberBytes_row_tie rfl ⟨rfl, rfl⟩ (by kernel_rfl) rfl
    (fun f fn hf hfn => by
      obtain rfl : f = 7 := Option.some.inj ((show Tryd.prog.funcNamed Rows.memberBytesRow.func = some 7 by kernel_rfl).symm.trans hf) |>.symm
      obtain rfl : fn = Tryd.f7 := (Option.some.inj (Tryd.func7.symm.trans hfn)).symm
      exact ⟨by kernel_rfl, fun j t ht => by
        rw [Tryd.params7] at ht
        match j, ht with
        | 0, ht => obtain rfl : 9 = t := by simpa using ht
                   exact (show Tryd.prog.wantsStandIn 9 = false by kernel_rfl)
        | 1, ht => obtain rfl : 22 = t := by simpa using ht
                   exact (show Tryd.prog.wantsStandIn 22 = false by kernel_rfl)
        | 2, ht => obtain rfl : 47 = t := by simpa using ht
                   exact (show Tryd.prog.wantsStandIn 47 = false by kernel_rfl)
        | 3, ht => obtain rfl : 3 = t := by simpa using ht
                   exact (show Tryd.prog.wantsStandIn 3 = false by kernel_rfl)
        | (k + 4), ht => simp at ht⟩)
    (by kernel_rfl)
end Go.Proofs.YtkoakmaihcheaabDoor
