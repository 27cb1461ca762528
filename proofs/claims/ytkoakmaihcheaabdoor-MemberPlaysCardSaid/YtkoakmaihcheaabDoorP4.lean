/- Contracts of functions of the given program, and plain laws on what they compute: parts of the proofs of laws. -/
import Derived.Test.YtkoakmaihcheaabDoorGLt
import Derived.Test.YtkoakmaihcheaabDoorP3
import Derived.Test.YtkoakmaihcheaabDoorN1
import Derived.Test.YtkoakmaihcheaabDoorGLu

namespace Go.Proofs.YtkoakmaihcheaabDoor
open Go Go.GL

theorem putM_ne {f : List Bool} {ch : List Ch} {c : Ch} {x : Int} (h : putM f ch c = some x) : x ≠ 0 := by
  unfold putM at h
  split at h
  · cases h; decide
  split at h
  · cases h; decide
  split at h
  · cases h; decide
  split at h
  · cases h; decide
  split at h
  · cases h; decide
  · cases h
theorem putCh_app {f : List Bool} {ch : List Ch} {c : Ch} (h : putM f ch c = none) : putCh f ch c = ch ++ [c] := by unfold putCh; rw [h]
theorem newM_ne {l : List Int} : ∀ {f : List Bool} {at_ c : Int}, newM l f = .error (at_, c) → c ≠ 0 := by
  induction l with
  | nil => intro f a c h; cases h
  | cons v r ih =>
    intro f a c h
    rw [newM_cons] at h
    split at h
    · split at h
      · cases h; decide
      · exact ih h
    · cases h; decide
set_option maxHeartbeats 8000000 in
set_option maxRecDepth 10000 in
theorem plays_ro (a b : Option Addr) (n c m c2 : Nat) (l : List Int) (ops : List Op3) (mark : Int) :
    RO G 5 [.slice a n c, .slice b m c2, .int .i64 mark] (fun h => ErrT h ∧ readS a n 1 (l.map vI) h ∧ readS b m 3 (encOs ops) h) (.bool true) := by
  refine RO.enter Tryd.func5 rfl (by decide) rfl Tryd.ntmps5 rfl (fun A hu hA => ?_) (up_and up_ErrT (up_and (up_readS _ _ _ _) (up_readS _ _ _ _)))
  have hER : ∀ {L}, A ∈ L → Ent L ErrT := fun m => Ent.mem m hu fun k x => (hA k x).1
  have hE1 : ∀ {L}, A ∈ L → Ent L (readS a n 1 (l.map vI)) := fun m => Ent.mem m hu fun k x => (hA k x).2.1
  have hE2 : ∀ {L}, A ∈ L → Ent L (readS b m 3 (encOs ops)) := fun m => Ent.mem m hu fun k x => (hA k x).2.2
  refine WC.fact (Ent.len (hE2 MM)) (fun hlen => ?_)
  have hm : m = ops.length := by
    have : (encOs ops).length = ops.length * 3 := GL.flat_len (f := encO) (z := 3) (fun _ => rfl) ops
    omega
  repeat (first | refine GO ?_ | refine NW fun _ => ?_)
  refine WL.step rfl (OP.callRO rfl rfl awake_ro (fun _ _ => trivial) rfl rfl ?_)
  by_cases h20 : 20 < n
  · repeat (first | refine GD ?_ | refine NW fun _ => ?_)
    refine WL.step rfl (OP.callRO rfl rfl awake_ro (fun _ _ => trivial) rfl rfl ?_)
    repeat (first | refine GO ?_ | refine NW fun _ => ?_)
    exact ret1 rfl ⟨rfl, MM⟩
  by_cases h200 : 200 < m
  · repeat (first | refine GD ?_ | refine NW fun _ => ?_)
    refine WL.step rfl (OP.callRO rfl rfl awake_ro (fun _ _ => trivial) rfl rfl ?_)
    repeat (first | refine GO ?_ | refine NW fun _ => ?_)
    exact ret1 rfl ⟨rfl, MM⟩
  repeat (first | refine GD ?_ | refine NW fun _ => ?_)
  refine WL.step rfl (OP.callRT rfl rfl (new_ok a n c l (by omega)) (hE1 MM) rfl rfl ?_)
  rintro v E hE
  unfold NewPost at hE
  split at hE
  rotate_left
  · rename_i at1 c1 hn1
    obtain ⟨e, rfl, b', rfl, rfl⟩ := hE
    have hcn := newM_ne hn1
    repeat (first | refine GO ?_ | refine NW fun _ => ?_)
    refine WL.step rfl (OP.callRT rfl rfl (qnew_ok a n c l (by omega)) (hE1 MM) rfl rfl ?_)
    rintro v E hE
    unfold QNewPost at hE
    rw [hn1] at hE
    obtain ⟨rfl, rfl⟩ := hE
    repeat (first | refine GO ?_ | refine NW fun _ => ?_)
    refine WL.step rfl (OP.callRO rfl rfl (place_fault b' at1 c1 at1 c1 hcn) (Ent.and (hER MM) (Ent.whole (c := faultCells member at1 c1) (T := 87) MM)) rfl rfl ?_)
    rw [decide_eq_true ⟨rfl, rfl⟩]
    repeat (first | refine GD ?_ | refine NW fun _ => ?_)
    exact ret1 rfl ⟨rfl, MM⟩
  rename_i f hf
  obtain ⟨p, rfl, rfl⟩ := hE
  have hfl : f.length = 4 := newM_length hf
  repeat (first | refine GO ?_ | refine NW fun _ => ?_)
  refine WL.step rfl (OP.callRT rfl rfl (qnew_ok a n c l (by omega)) (hE1 MM) rfl rfl ?_)
  rintro v E hE
  unfold QNewPost at hE
  rw [hf] at hE
  obtain ⟨q, rfl, rfl⟩ := hE
  repeat (first | refine GO ?_ | refine NW fun _ => ?_)
  refine WL.step rfl (OP.callRO rfl rfl (place_nil 0 0) (fun _ _ => trivial) rfl rfl ?_)
  rw [decide_eq_true rfl]
  repeat (first | refine GD ?_ | refine NW fun _ => ?_)
  refine WC.imp (Imp.nilS 75 3) ?_
  refine WC.imp (Imp.nilS 94 3) ?_
  have hR : ∀ {L} {a1 cap1} {ch}, blk p (bools f ++ [.slice a1 ch.length cap1]) 69 ∈ L → ownS a1 ch.length cap1 75 3 (encL ch) ∈ L → Ent L (grpR p a1 cap1 f ch) := fun m1 m2 => Ent.and (Ent.whole m1) (Ent.own m2)
  have hQ : ∀ {L} {a1 cap1} {ch}, blk q (ints4 f ++ [.slice a1 ch.length cap1]) 91 ∈ L → ownS a1 ch.length cap1 94 3 (encL ch) ∈ L → Ent L (refR q a1 cap1 f ch) := fun m1 m2 => Ent.and (Ent.whole m1) (Ent.own m2)
  refine WC.loop (σ := Nat × List Ch × Option Addr × Nat × Option Addr × Nat) (fun s => s.1 ≤ m ∧ Inc s.2.1 ∧ Vols s.2.1 ∧ s.2.1.length ≤ 100)
    (fun s => [(1, .val (.slice b m c2)), (2, .val (.int .i64 mark)), (7, .val (.pointer (some ⟨p, 0, none⟩))), (9, .val (.pointer (some ⟨q, 0, none⟩))), (53, .val (.int .i64 m)), (54, .val (.int .i64 s.1))])
    (fun s => grpL p s.2.2.1 s.2.1.length s.2.2.2.1 f s.2.1 ++ refL q s.2.2.2.2.1 s.2.1.length s.2.2.2.2.2 f s.2.1 ++ [A]) (fun s => m - s.1) (0, [], none, 0, none, 0)
    ⟨Nat.zero_le _, .nil, (by intro x hx; cases hx), by decide⟩ ⟨rfl, rfl, rfl, rfl, rfl, rfl, trivial⟩ II ?_
  rintro ⟨k, ch, a1, cap1, a2, cap2⟩ ⟨hk, hi, hv, hs⟩
  dsimp only at hk hi hv hs ⊢
  refine WC.fact (Ent.ownLe (a := a1) (n := ch.length) (cap := cap1) (T := 75) (size := 3) (cs := encL ch) MM) (fun hc => ?_)
  by_cases hlt : k < m
  rotate_left
  · have hgb := gbytes_ok p a1 cap1 f ch hfl hv hs
    have hqb := qgbytes_ro q a2 cap2 f ch hfl hv hs
    generalize bytesM f ch = bl at *
    repeat (first | refine GD ?_ | refine NW fun _ => ?_)
    refine RD 7 7 (_) ?_
    refine VV 0 ?_
    refine VV 3 ?_
    refine WH.only 1 rfl rfl (by kernel_rfl) rfl (OP.callRT rfl rfl hgb (hR MM MM) rfl rfl (fun v E hE' => ?_))
    obtain ⟨a4, cap4, rfl, rfl⟩ := hE'
    refine ⟨fun _ => II, ?_⟩
    refine WH.more _ II (Imp.refl _) ?_
    refine VQ 2 rfl (Quiet.toStr (sv := ba bl) rfl rfl rfl rfl rfl rfl rfl rfl (by rw [strCells_ba]; exact Ent.own (T := 5) MM)) ?_
    refine WH.only 4 rfl rfl (by kernel_rfl) rfl (OP.callRO rfl rfl (hqb) (hQ MM MM) rfl rfl ⟨fun _ => II, ?_⟩)
    refine VV 5 ?_
    rw [decide_eq_true rfl]
    refine VV 6 ?_
    refine DN ?_
    repeat (first | refine GD ?_ | refine NW fun _ => ?_)
    exact ret1 rfl ⟨rfl, MM⟩
  refine WC.fact (Ent.some (hE2 MM) (by omega)) ?_
  rintro ⟨bo, off, rfl⟩
  have hlk : k < ops.length := by omega
  have hlo : ∀ {L}, A ∈ L → Ent L (cellsAt bo (off + k * 3) (encO ops[k])) := fun m => GL.Ent.elA (f := encO) (z := 3) (fun _ => rfl) (hE2 m) hlk
  generalize ops[k] = o at *
  obtain ⟨ok, ov, om⟩ := o
  repeat (first | refine GD ?_ | refine NW fun _ => ?_)
  refine WL.step rfl (OP.loadA rfl rfl rfl rfl (hlo MM) rfl rfl rfl ?_)
  by_cases h1 : ok = 1
  · subst h1
    obtain ⟨c0, hc0⟩ : ∃ c0 : Ch, c0 = (om, ov, false) := ⟨_, rfl⟩
    repeat (first | refine GD ?_ | refine NW fun _ => ?_)
    rename_i bx
    cases hp : putM f ch c0 with
    | some code =>
      subst hc0
      refine RD 16 16 ([blk bx (encO (1, ov, om)) 53]) ?_
      refine VV 0 ?_
      refine VV 1 ?_
      refine VV 2 ?_
      refine VV 3 ?_
      refine VV 4 ?_
      refine VV 6 ?_
      refine VV 7 ?_
      refine VV 8 ?_
      refine VV 9 ?_
      refine VV 10 ?_
      refine VV 11 ?_
      refine VV 12 ?_
      refine WH.only 5 rfl rfl (by kernel_rfl) rfl (OP.call (pre := grpL p a1 ch.length cap1 f ch) rfl rfl (add_ok p a1 cap1 f ch ov om hfl hv hs) PS rfl rfl (fun v M hM => ?_))
      unfold PutPost at hM
      rw [hp] at hM
      obtain ⟨E, ⟨b', rfl, rfl⟩, rfl⟩ := hM
      refine ⟨fun _ => II, ?_⟩
      refine WH.only 13 rfl rfl (by kernel_rfl) rfl (OP.call (pre := refL q a2 ch.length cap2 f ch) rfl rfl (qchange_ok q a2 cap2 f ch ov om false hfl hi hv hs) PS rfl rfl (fun v M hM => ?_))
      unfold QChPost at hM
      rw [hp] at hM
      obtain ⟨rfl, rfl⟩ := hM
      refine ⟨fun _ => II, ?_⟩
      refine WH.only 14 rfl rfl (by kernel_rfl) rfl (OP.callRO rfl rfl (place_fault b' ov code ov code (putM_ne hp)) (Ent.and (hER MM) (Ent.whole (c := faultCells member ov code) (T := 87) MM)) rfl rfl ⟨fun _ => II, ?_⟩)
      rw [decide_eq_true ⟨rfl, rfl⟩]
      refine VV 15 ?_
      refine DN ?_
      repeat (first | refine GD ?_ | refine NW fun _ => ?_)
      refine WL.fact (Ent.ownLe (a := a1) (n := ch.length) (cap := cap1) (T := 75) (size := 3) (cs := encL ch) MM) (fun hc' => ?_)
      have hla := listM_len (atM mark f ch)
      have hlb := listM_len (after f ch)
      rw [atM_length] at hla
      rw [after_length] at hlb
      have hat := at_ok p a1 cap1 f ch mark hfl hv hc' (by omega)
      have hqat := qat_ok q a2 cap2 f ch mark hfl (by omega)
      have hqal := qat_ok q a2 cap2 f ch (lastM ch) hfl (by omega)
      have hnow := now_ok p a1 cap1 f ch hfl hv hc' (by omega)
      rw [listQ_at hi hv hfl] at hqat hqal
      rw [atM_high hi.srt (Int.le_refl _)] at hqal
      unfold atM at hqat hla
      generalize listM (after f (ch.take (cnt mark ch))) = lA at *
      generalize listM (after f ch) = lB at *
      have hsA := fun x y z w => same_ro x y lA.length z lA.length w lA lA rfl rfl (by omega) (by omega)
      have hsB := fun x y z w => same_ro x y lB.length z lB.length w lB lB rfl rfl (by omega) (by omega)
      have hl1 := last_ro p a1 cap1 f ch hfl (by omega)
      have hl2 := qlast_ro q a2 cap2 f ch hfl (by omega)
      generalize lastM ch = lm at *
      repeat (first | refine GD ?_ | refine NW fun _ => ?_)
      refine WL.step rfl (OP.callRO rfl rfl hl1 (hR MM MM) rfl rfl ?_)
      repeat (first | refine GD ?_ | refine NW fun _ => ?_)
      refine WL.step rfl (OP.callRO rfl rfl hl2 (hQ MM MM) rfl rfl ?_)
      repeat (first | refine GD ?_ | refine NW fun _ => ?_)
      refine WL.guardT rfl rfl rfl rfl (OP.callRT rfl rfl hat (hR MM MM) rfl rfl ?_)
      rintro v E ⟨a5, c5, rfl, rfl⟩
      repeat (first | refine GD ?_ | refine NW fun _ => ?_)
      refine WL.guardT rfl rfl rfl rfl (OP.callRT rfl rfl hqat (hQ MM MM) rfl rfl ?_)
      rintro v E ⟨a6, c6, rfl, rfl⟩
      repeat (first | refine GD ?_ | refine NW fun _ => ?_)
      refine WL.guardT rfl rfl rfl rfl (OP.callRO rfl rfl (hsA _ _ _ _) (Ent.and (Ent.own MM) (Ent.own MM)) rfl rfl ?_)
      rw [decide_eq_true rfl]
      repeat (first | refine GD ?_ | refine NW fun _ => ?_)
      refine WL.guardT rfl rfl rfl rfl (OP.callRT rfl rfl hnow (hR MM MM) rfl rfl ?_)
      rintro v E ⟨a7, c7, rfl, rfl⟩
      repeat (first | refine GD ?_ | refine NW fun _ => ?_)
      refine WL.guardT rfl rfl rfl rfl (OP.callRO rfl rfl hl2 (hQ MM MM) rfl rfl ?_)
      repeat (first | refine GD ?_ | refine NW fun _ => ?_)
      refine WL.guardT rfl rfl rfl rfl (OP.callRT rfl rfl hqal (hQ MM MM) rfl rfl ?_)
      rintro v E ⟨a8, c8, rfl, rfl⟩
      repeat (first | refine GD ?_ | refine NW fun _ => ?_)
      refine WL.guardT rfl rfl rfl rfl (OP.callRO rfl rfl (hsB _ _ _ _) (Ent.and (Ent.own MM) (Ent.own MM)) rfl rfl ?_)
      rw [decide_eq_true rfl]
      repeat (first | refine GD ?_ | refine NW fun _ => ?_)
      exact ⟨(k + 1, ch, a1, cap1, a2, cap2), ⟨by dsimp only; omega, hi, hv, hs⟩, by dsimp only; omega, ⟨rfl, rfl, rfl, rfl, rfl, rfl, trivial⟩, II⟩
    | none =>
      have hpc := putCh_app hp
      have hin := putCh_inv (f := f) (c := c0) hv hs
      have hii := inc_put (f := f) (c := c0) hi
      rw [hpc] at hin hii
      refine RD 16 16 ([blk bx (encO (1, ov, om)) 53]) ?_
      refine VV 0 ?_
      refine VV 1 ?_
      refine VV 2 ?_
      refine VV 3 ?_
      refine VV 4 ?_
      refine VV 6 ?_
      refine VV 7 ?_
      refine VV 8 ?_
      refine VV 9 ?_
      refine VV 10 ?_
      refine VV 11 ?_
      refine VV 12 ?_
      refine WH.only 5 rfl rfl (by kernel_rfl) rfl (OP.call (pre := grpL p a1 ch.length cap1 f ch) rfl rfl (add_ok p a1 cap1 f ch ov om hfl hv hs) PS rfl rfl (fun v M hM => ?_))
      unfold PutPost at hM
      rw [← hc0, hp] at hM
      obtain ⟨rfl, a1, cap1, rfl⟩ := hM
      refine ⟨fun _ => II, ?_⟩
      refine WH.only 13 rfl rfl (by kernel_rfl) rfl (OP.call (pre := refL q a2 ch.length cap2 f ch) rfl rfl (qchange_ok q a2 cap2 f ch ov om false hfl hi hv hs) PS rfl rfl (fun v M hM => ?_))
      unfold QChPost at hM
      rw [← hc0, hp] at hM
      obtain ⟨rfl, a2, cap2, rfl⟩ := hM
      refine ⟨fun _ => II, ?_⟩
      refine WH.only 14 rfl rfl (by kernel_rfl) rfl (OP.callRO rfl rfl (place_nil ov 0) (fun _ _ => trivial) rfl rfl ⟨fun _ => II, ?_⟩)
      rw [decide_eq_true rfl]
      refine VV 15 ?_
      refine DN ?_
      have hch' : (ch ++ [c0]).length = ch.length + 1 := by rw [List.length_append, List.length_singleton]
      rw [← hch']
      generalize ch ++ [c0] = ch at *
      obtain ⟨hv, hs⟩ := hin
      have hi := hii
      repeat (first | refine GD ?_ | refine NW fun _ => ?_)
      refine WL.fact (Ent.ownLe (a := a1) (n := ch.length) (cap := cap1) (T := 75) (size := 3) (cs := encL ch) MM) (fun hc' => ?_)
      have hla := listM_len (atM mark f ch)
      have hlb := listM_len (after f ch)
      rw [atM_length] at hla
      rw [after_length] at hlb
      have hat := at_ok p a1 cap1 f ch mark hfl hv hc' (by omega)
      have hqat := qat_ok q a2 cap2 f ch mark hfl (by omega)
      have hqal := qat_ok q a2 cap2 f ch (lastM ch) hfl (by omega)
      have hnow := now_ok p a1 cap1 f ch hfl hv hc' (by omega)
      rw [listQ_at hi hv hfl] at hqat hqal
      rw [atM_high hi.srt (Int.le_refl _)] at hqal
      unfold atM at hqat hla
      generalize listM (after f (ch.take (cnt mark ch))) = lA at *
      generalize listM (after f ch) = lB at *
      have hsA := fun x y z w => same_ro x y lA.length z lA.length w lA lA rfl rfl (by omega) (by omega)
      have hsB := fun x y z w => same_ro x y lB.length z lB.length w lB lB rfl rfl (by omega) (by omega)
      have hl1 := last_ro p a1 cap1 f ch hfl (by omega)
      have hl2 := qlast_ro q a2 cap2 f ch hfl (by omega)
      generalize lastM ch = lm at *
      repeat (first | refine GD ?_ | refine NW fun _ => ?_)
      refine WL.step rfl (OP.callRO rfl rfl hl1 (hR MM MM) rfl rfl ?_)
      repeat (first | refine GD ?_ | refine NW fun _ => ?_)
      refine WL.step rfl (OP.callRO rfl rfl hl2 (hQ MM MM) rfl rfl ?_)
      repeat (first | refine GD ?_ | refine NW fun _ => ?_)
      refine WL.guardT rfl rfl rfl rfl (OP.callRT rfl rfl hat (hR MM MM) rfl rfl ?_)
      rintro v E ⟨a5, c5, rfl, rfl⟩
      repeat (first | refine GD ?_ | refine NW fun _ => ?_)
      refine WL.guardT rfl rfl rfl rfl (OP.callRT rfl rfl hqat (hQ MM MM) rfl rfl ?_)
      rintro v E ⟨a6, c6, rfl, rfl⟩
      repeat (first | refine GD ?_ | refine NW fun _ => ?_)
      refine WL.guardT rfl rfl rfl rfl (OP.callRO rfl rfl (hsA _ _ _ _) (Ent.and (Ent.own MM) (Ent.own MM)) rfl rfl ?_)
      rw [decide_eq_true rfl]
      repeat (first | refine GD ?_ | refine NW fun _ => ?_)
      refine WL.guardT rfl rfl rfl rfl (OP.callRT rfl rfl hnow (hR MM MM) rfl rfl ?_)
      rintro v E ⟨a7, c7, rfl, rfl⟩
      repeat (first | refine GD ?_ | refine NW fun _ => ?_)
      refine WL.guardT rfl rfl rfl rfl (OP.callRO rfl rfl hl2 (hQ MM MM) rfl rfl ?_)
      repeat (first | refine GD ?_ | refine NW fun _ => ?_)
      refine WL.guardT rfl rfl rfl rfl (OP.callRT rfl rfl hqal (hQ MM MM) rfl rfl ?_)
      rintro v E ⟨a8, c8, rfl, rfl⟩
      repeat (first | refine GD ?_ | refine NW fun _ => ?_)
      refine WL.guardT rfl rfl rfl rfl (OP.callRO rfl rfl (hsB _ _ _ _) (Ent.and (Ent.own MM) (Ent.own MM)) rfl rfl ?_)
      rw [decide_eq_true rfl]
      repeat (first | refine GD ?_ | refine NW fun _ => ?_)
      exact ⟨(k + 1, ch, a1, cap1, a2, cap2), ⟨by dsimp only; omega, hi, hv, hs⟩, by dsimp only; omega, ⟨rfl, rfl, rfl, rfl, rfl, rfl, trivial⟩, II⟩
  by_cases h2 : ok = 2
  · subst h2
    obtain ⟨c0, hc0⟩ : ∃ c0 : Ch, c0 = (om, ov, true) := ⟨_, rfl⟩
    repeat (first | refine GD ?_ | refine NW fun _ => ?_)
    rename_i bx
    cases hp : putM f ch c0 with
    | some code =>
      subst hc0
      refine RD 16 16 ([blk bx (encO (2, ov, om)) 53]) ?_
      refine VV 0 ?_
      refine VV 1 ?_
      refine VV 2 ?_
      refine VV 3 ?_
      refine VV 4 ?_
      refine VV 6 ?_
      refine VV 7 ?_
      refine VV 8 ?_
      refine VV 9 ?_
      refine VV 10 ?_
      refine VV 11 ?_
      refine VV 12 ?_
      refine WH.only 5 rfl rfl (by kernel_rfl) rfl (OP.call (pre := grpL p a1 ch.length cap1 f ch) rfl rfl (remove_ok p a1 cap1 f ch ov om hfl hv hs) PS rfl rfl (fun v M hM => ?_))
      unfold PutPost at hM
      rw [hp] at hM
      obtain ⟨E, ⟨b', rfl, rfl⟩, rfl⟩ := hM
      refine ⟨fun _ => II, ?_⟩
      refine WH.only 13 rfl rfl (by kernel_rfl) rfl (OP.call (pre := refL q a2 ch.length cap2 f ch) rfl rfl (qchange_ok q a2 cap2 f ch ov om true hfl hi hv hs) PS rfl rfl (fun v M hM => ?_))
      unfold QChPost at hM
      rw [hp] at hM
      obtain ⟨rfl, rfl⟩ := hM
      refine ⟨fun _ => II, ?_⟩
      refine WH.only 14 rfl rfl (by kernel_rfl) rfl (OP.callRO rfl rfl (place_fault b' ov code ov code (putM_ne hp)) (Ent.and (hER MM) (Ent.whole (c := faultCells member ov code) (T := 87) MM)) rfl rfl ⟨fun _ => II, ?_⟩)
      rw [decide_eq_true ⟨rfl, rfl⟩]
      refine VV 15 ?_
      refine DN ?_
      repeat (first | refine GD ?_ | refine NW fun _ => ?_)
      refine WL.fact (Ent.ownLe (a := a1) (n := ch.length) (cap := cap1) (T := 75) (size := 3) (cs := encL ch) MM) (fun hc' => ?_)
      have hla := listM_len (atM mark f ch)
      have hlb := listM_len (after f ch)
      rw [atM_length] at hla
      rw [after_length] at hlb
      have hat := at_ok p a1 cap1 f ch mark hfl hv hc' (by omega)
      have hqat := qat_ok q a2 cap2 f ch mark hfl (by omega)
      have hqal := qat_ok q a2 cap2 f ch (lastM ch) hfl (by omega)
      have hnow := now_ok p a1 cap1 f ch hfl hv hc' (by omega)
      rw [listQ_at hi hv hfl] at hqat hqal
      rw [atM_high hi.srt (Int.le_refl _)] at hqal
      unfold atM at hqat hla
      generalize listM (after f (ch.take (cnt mark ch))) = lA at *
      generalize listM (after f ch) = lB at *
      have hsA := fun x y z w => same_ro x y lA.length z lA.length w lA lA rfl rfl (by omega) (by omega)
      have hsB := fun x y z w => same_ro x y lB.length z lB.length w lB lB rfl rfl (by omega) (by omega)
      have hl1 := last_ro p a1 cap1 f ch hfl (by omega)
      have hl2 := qlast_ro q a2 cap2 f ch hfl (by omega)
      generalize lastM ch = lm at *
      repeat (first | refine GD ?_ | refine NW fun _ => ?_)
      refine WL.step rfl (OP.callRO rfl rfl hl1 (hR MM MM) rfl rfl ?_)
      repeat (first | refine GD ?_ | refine NW fun _ => ?_)
      refine WL.step rfl (OP.callRO rfl rfl hl2 (hQ MM MM) rfl rfl ?_)
      repeat (first | refine GD ?_ | refine NW fun _ => ?_)
      refine WL.guardT rfl rfl rfl rfl (OP.callRT rfl rfl hat (hR MM MM) rfl rfl ?_)
      rintro v E ⟨a5, c5, rfl, rfl⟩
      repeat (first | refine GD ?_ | refine NW fun _ => ?_)
      refine WL.guardT rfl rfl rfl rfl (OP.callRT rfl rfl hqat (hQ MM MM) rfl rfl ?_)
      rintro v E ⟨a6, c6, rfl, rfl⟩
      repeat (first | refine GD ?_ | refine NW fun _ => ?_)
      refine WL.guardT rfl rfl rfl rfl (OP.callRO rfl rfl (hsA _ _ _ _) (Ent.and (Ent.own MM) (Ent.own MM)) rfl rfl ?_)
      rw [decide_eq_true rfl]
      repeat (first | refine GD ?_ | refine NW fun _ => ?_)
      refine WL.guardT rfl rfl rfl rfl (OP.callRT rfl rfl hnow (hR MM MM) rfl rfl ?_)
      rintro v E ⟨a7, c7, rfl, rfl⟩
      repeat (first | refine GD ?_ | refine NW fun _ => ?_)
      refine WL.guardT rfl rfl rfl rfl (OP.callRO rfl rfl hl2 (hQ MM MM) rfl rfl ?_)
      repeat (first | refine GD ?_ | refine NW fun _ => ?_)
      refine WL.guardT rfl rfl rfl rfl (OP.callRT rfl rfl hqal (hQ MM MM) rfl rfl ?_)
      rintro v E ⟨a8, c8, rfl, rfl⟩
      repeat (first | refine GD ?_ | refine NW fun _ => ?_)
      refine WL.guardT rfl rfl rfl rfl (OP.callRO rfl rfl (hsB _ _ _ _) (Ent.and (Ent.own MM) (Ent.own MM)) rfl rfl ?_)
      rw [decide_eq_true rfl]
      repeat (first | refine GD ?_ | refine NW fun _ => ?_)
      exact ⟨(k + 1, ch, a1, cap1, a2, cap2), ⟨by dsimp only; omega, hi, hv, hs⟩, by dsimp only; omega, ⟨rfl, rfl, rfl, rfl, rfl, rfl, trivial⟩, II⟩
    | none =>
      have hpc := putCh_app hp
      have hin := putCh_inv (f := f) (c := c0) hv hs
      have hii := inc_put (f := f) (c := c0) hi
      rw [hpc] at hin hii
      refine RD 16 16 ([blk bx (encO (2, ov, om)) 53]) ?_
      refine VV 0 ?_
      refine VV 1 ?_
      refine VV 2 ?_
      refine VV 3 ?_
      refine VV 4 ?_
      refine VV 6 ?_
      refine VV 7 ?_
      refine VV 8 ?_
      refine VV 9 ?_
      refine VV 10 ?_
      refine VV 11 ?_
      refine VV 12 ?_
      refine WH.only 5 rfl rfl (by kernel_rfl) rfl (OP.call (pre := grpL p a1 ch.length cap1 f ch) rfl rfl (remove_ok p a1 cap1 f ch ov om hfl hv hs) PS rfl rfl (fun v M hM => ?_))
      unfold PutPost at hM
      rw [← hc0, hp] at hM
      obtain ⟨rfl, a1, cap1, rfl⟩ := hM
      refine ⟨fun _ => II, ?_⟩
      refine WH.only 13 rfl rfl (by kernel_rfl) rfl (OP.call (pre := refL q a2 ch.length cap2 f ch) rfl rfl (qchange_ok q a2 cap2 f ch ov om true hfl hi hv hs) PS rfl rfl (fun v M hM => ?_))
      unfold QChPost at hM
      rw [← hc0, hp] at hM
      obtain ⟨rfl, a2, cap2, rfl⟩ := hM
      refine ⟨fun _ => II, ?_⟩
      refine WH.only 14 rfl rfl (by kernel_rfl) rfl (OP.callRO rfl rfl (place_nil ov 0) (fun _ _ => trivial) rfl rfl ⟨fun _ => II, ?_⟩)
      rw [decide_eq_true rfl]
      refine VV 15 ?_
      refine DN ?_
      have hch' : (ch ++ [c0]).length = ch.length + 1 := by rw [List.length_append, List.length_singleton]
      rw [← hch']
      generalize ch ++ [c0] = ch at *
      obtain ⟨hv, hs⟩ := hin
      have hi := hii
      repeat (first | refine GD ?_ | refine NW fun _ => ?_)
      refine WL.fact (Ent.ownLe (a := a1) (n := ch.length) (cap := cap1) (T := 75) (size := 3) (cs := encL ch) MM) (fun hc' => ?_)
      have hla := listM_len (atM mark f ch)
      have hlb := listM_len (after f ch)
      rw [atM_length] at hla
      rw [after_length] at hlb
      have hat := at_ok p a1 cap1 f ch mark hfl hv hc' (by omega)
      have hqat := qat_ok q a2 cap2 f ch mark hfl (by omega)
      have hqal := qat_ok q a2 cap2 f ch (lastM ch) hfl (by omega)
      have hnow := now_ok p a1 cap1 f ch hfl hv hc' (by omega)
      rw [listQ_at hi hv hfl] at hqat hqal
      rw [atM_high hi.srt (Int.le_refl _)] at hqal
      unfold atM at hqat hla
      generalize listM (after f (ch.take (cnt mark ch))) = lA at *
      generalize listM (after f ch) = lB at *
      have hsA := fun x y z w => same_ro x y lA.length z lA.length w lA lA rfl rfl (by omega) (by omega)
      have hsB := fun x y z w => same_ro x y lB.length z lB.length w lB lB rfl rfl (by omega) (by omega)
      have hl1 := last_ro p a1 cap1 f ch hfl (by omega)
      have hl2 := qlast_ro q a2 cap2 f ch hfl (by omega)
      generalize lastM ch = lm at *
      repeat (first | refine GD ?_ | refine NW fun _ => ?_)
      refine WL.step rfl (OP.callRO rfl rfl hl1 (hR MM MM) rfl rfl ?_)
      repeat (first | refine GD ?_ | refine NW fun _ => ?_)
      refine WL.step rfl (OP.callRO rfl rfl hl2 (hQ MM MM) rfl rfl ?_)
      repeat (first | refine GD ?_ | refine NW fun _ => ?_)
      refine WL.guardT rfl rfl rfl rfl (OP.callRT rfl rfl hat (hR MM MM) rfl rfl ?_)
      rintro v E ⟨a5, c5, rfl, rfl⟩
      repeat (first | refine GD ?_ | refine NW fun _ => ?_)
      refine WL.guardT rfl rfl rfl rfl (OP.callRT rfl rfl hqat (hQ MM MM) rfl rfl ?_)
      rintro v E ⟨a6, c6, rfl, rfl⟩
      repeat (first | refine GD ?_ | refine NW fun _ => ?_)
      refine WL.guardT rfl rfl rfl rfl (OP.callRO rfl rfl (hsA _ _ _ _) (Ent.and (Ent.own MM) (Ent.own MM)) rfl rfl ?_)
      rw [decide_eq_true rfl]
      repeat (first | refine GD ?_ | refine NW fun _ => ?_)
      refine WL.guardT rfl rfl rfl rfl (OP.callRT rfl rfl hnow (hR MM MM) rfl rfl ?_)
      rintro v E ⟨a7, c7, rfl, rfl⟩
      repeat (first | refine GD ?_ | refine NW fun _ => ?_)
      refine WL.guardT rfl rfl rfl rfl (OP.callRO rfl rfl hl2 (hQ MM MM) rfl rfl ?_)
      repeat (first | refine GD ?_ | refine NW fun _ => ?_)
      refine WL.guardT rfl rfl rfl rfl (OP.callRT rfl rfl hqal (hQ MM MM) rfl rfl ?_)
      rintro v E ⟨a8, c8, rfl, rfl⟩
      repeat (first | refine GD ?_ | refine NW fun _ => ?_)
      refine WL.guardT rfl rfl rfl rfl (OP.callRO rfl rfl (hsB _ _ _ _) (Ent.and (Ent.own MM) (Ent.own MM)) rfl rfl ?_)
      rw [decide_eq_true rfl]
      repeat (first | refine GD ?_ | refine NW fun _ => ?_)
      exact ⟨(k + 1, ch, a1, cap1, a2, cap2), ⟨by dsimp only; omega, hi, hv, hs⟩, by dsimp only; omega, ⟨rfl, rfl, rfl, rfl, rfl, rfl, trivial⟩, II⟩
  repeat (first | refine GD ?_ | refine NW fun _ => ?_)
  refine WL.fact (Ent.ownLe (a := a1) (n := ch.length) (cap := cap1) (T := 75) (size := 3) (cs := encL ch) MM) (fun hc' => ?_)
  have hla := listM_len (atM mark f ch)
  have hlb := listM_len (after f ch)
  rw [atM_length] at hla
  rw [after_length] at hlb
  have hat := at_ok p a1 cap1 f ch mark hfl hv hc' (by omega)
  have hqat := qat_ok q a2 cap2 f ch mark hfl (by omega)
  have hqal := qat_ok q a2 cap2 f ch (lastM ch) hfl (by omega)
  have hnow := now_ok p a1 cap1 f ch hfl hv hc' (by omega)
  rw [listQ_at hi hv hfl] at hqat hqal
  rw [atM_high hi.srt (Int.le_refl _)] at hqal
  unfold atM at hqat hla
  generalize listM (after f (ch.take (cnt mark ch))) = lA at *
  generalize listM (after f ch) = lB at *
  have hsA := fun x y z w => same_ro x y lA.length z lA.length w lA lA rfl rfl (by omega) (by omega)
  have hsB := fun x y z w => same_ro x y lB.length z lB.length w lB lB rfl rfl (by omega) (by omega)
  have hl1 := last_ro p a1 cap1 f ch hfl (by omega)
  have hl2 := qlast_ro q a2 cap2 f ch hfl (by omega)
  generalize lastM ch = lm at *
  repeat (first | refine GD ?_ | refine NW fun _ => ?_)
  refine WL.step rfl (OP.callRO rfl rfl hl1 (hR MM MM) rfl rfl ?_)
  repeat (first | refine GD ?_ | refine NW fun _ => ?_)
  refine WL.step rfl (OP.callRO rfl rfl hl2 (hQ MM MM) rfl rfl ?_)
  repeat (first | refine GD ?_ | refine NW fun _ => ?_)
  refine WL.guardT rfl rfl rfl rfl (OP.callRT rfl rfl hat (hR MM MM) rfl rfl ?_)
  rintro v E ⟨a5, c5, rfl, rfl⟩
  repeat (first | refine GD ?_ | refine NW fun _ => ?_)
  refine WL.guardT rfl rfl rfl rfl (OP.callRT rfl rfl hqat (hQ MM MM) rfl rfl ?_)
  rintro v E ⟨a6, c6, rfl, rfl⟩
  repeat (first | refine GD ?_ | refine NW fun _ => ?_)
  refine WL.guardT rfl rfl rfl rfl (OP.callRO rfl rfl (hsA _ _ _ _) (Ent.and (Ent.own MM) (Ent.own MM)) rfl rfl ?_)
  rw [decide_eq_true rfl]
  repeat (first | refine GD ?_ | refine NW fun _ => ?_)
  refine WL.guardT rfl rfl rfl rfl (OP.callRT rfl rfl hnow (hR MM MM) rfl rfl ?_)
  rintro v E ⟨a7, c7, rfl, rfl⟩
  repeat (first | refine GD ?_ | refine NW fun _ => ?_)
  refine WL.guardT rfl rfl rfl rfl (OP.callRO rfl rfl hl2 (hQ MM MM) rfl rfl ?_)
  repeat (first | refine GD ?_ | refine NW fun _ => ?_)
  refine WL.guardT rfl rfl rfl rfl (OP.callRT rfl rfl hqal (hQ MM MM) rfl rfl ?_)
  rintro v E ⟨a8, c8, rfl, rfl⟩
  repeat (first | refine GD ?_ | refine NW fun _ => ?_)
  refine WL.guardT rfl rfl rfl rfl (OP.callRO rfl rfl (hsB _ _ _ _) (Ent.and (Ent.own MM) (Ent.own MM)) rfl rfl ?_)
  rw [decide_eq_true rfl]
  repeat (first | refine GD ?_ | refine NW fun _ => ?_)
  exact ⟨(k + 1, ch, a1, cap1, a2, cap2), ⟨by dsimp only; omega, hi, hv, hs⟩, by dsimp only; omega, ⟨rfl, rfl, rfl, rfl, rfl, rfl, trivial⟩, II⟩
end Go.Proofs.YtkoakmaihcheaabDoor
