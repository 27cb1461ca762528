/-
  The law VolumeOpens holds: whatever the input, the Go function returns true, and each argument reads as it did. Conditions: none beyond the statement's own.
-/
import Derived.Test.YteednjcoapmkaaaGreatDoorZVol7
import Derived.Test.YteednjcoapmkaaaGreatDoorZVol24
import Derived.Test.YteednjcoapmkaaaGreatDoorRows
import Derived.Test.YteednjcoapmkaaaGreatDoorTie
import Derived.Test.YteednjcoapmkaaaGreatDoorCards
import Derived.Test.YteednjcoapmkaaaGreatDoorZVol5
import Derived.ChangeSame
import Derived.ChangeVars
import Derived.JoinedOf
import Derived.RowKit
import Derived.RowKitTokens
import Derived.LaidLaws
import Derived.LaidHandle
import Derived.Stop.Joined
import Derived.SevenTiedAt
/- Contracts of functions of the given program, and plain laws on what they compute: parts of the proofs of laws. -/

namespace Go.Proofs.YteednjcoapmkaaaGreatDoor
open Go Go.GL

theorem plcOf_size {b : List UInt8} {block : Int} {x : Plc} (h : plcOf b block = some x) : x.2.size ≤ 16 := by
  unfold plcOf at h
  split at h
  · cases h; decide
  · split at h
    · cases h
      unfold pl3
      have := textR_size 16 (numR (numR (b.take (b.length - 4), 0)).2).2 (by decide)
      dsimp only
      omega
    · cases h
theorem plcsF_size {D : Dsk} {ring : Nat} : ∀ {k : Nat} {l m : List Plc}, (∀ x ∈ l, x.2.size ≤ 16) → plcsF D ring k l = some m → ∀ x ∈ m, x.2.size ≤ 16
  | 0, l, m, hl, h => by cases h; exact hl
  | k + 1, l, m, hl, h => by
    rw [plcsF] at h
    split at h
    · rename_i y hy
      refine plcsF_size (fun x hx => ?_) h
      rcases List.mem_append.1 hx with hx | hx
      · exact hl x hx
      · rw [List.mem_singleton.1 hx]; exact plcOf_size hy
    · cases h
theorem openV_ok {D D' : Dsk} {ring : Int} {V : Vol} (hD : D.ok) (h : openV D ring = .ok (V, D')) : V.rng ∧ V.blks = takeAll V.laid V.J.held ∧ ∀ x ∈ V.J.held, RightR x.2 := by
  unfold openV at h
  split at h
  · cases h
  rename_i hc
  obtain ⟨n, rfl⟩ : ∃ n : Nat, ring = n := ⟨ring.toNat, by omega⟩
  split at h
  · cases h
  · rename_i J D2 hq
    obtain ⟨_, _, hJright, _, _, _, hJrng⟩ := openM_facts hD hq
    split at h
    · cases h
    · rename_i l hl
      cases h
      have h8 := plcsM_len hl
      have hs := plcsF_size (fun x hx => by cases hx) (show plcsF D' (Int.toNat n) 8 [] = some l from hl)
      refine ⟨⟨hJrng, h8, (takeAll_len _ _).trans h8, ?_⟩, rfl, hJright⟩
      refine takeAll_all (P := fun x => x.2.size ≤ 16) _ _ hs (fun x hx h1 => ?_)
      rcases (hJright x hx).2 with h | h
      · omega
      · exact h.2.2.1
theorem openV_err {D : Dsk} {ring : Int} {l : List (ByteArray × Int)} {c : Int} (h : openV D ring = .error (l, c)) : (∃ s, l = (volTx, ring) :: s ∧ s.length < 100) ∧ c ≠ 0 := by
  unfold openV at h
  split at h
  · cases h; exact ⟨⟨[], rfl, by decide⟩, by decide⟩
  · split at h
    · rename_i c' hq
      cases h
      refine ⟨⟨_, rfl, by simp⟩, ?_⟩
      rcases openM_code hq with rfl | rfl <;> decide
    · split at h
      · cases h; exact ⟨⟨[], rfl, by decide⟩, by decide⟩
      · cases h
theorem strs_get {l : List ByteArray} {k : Nat} (h : k < l.length) : (l.map Value.string)[k * 1]? = some (.string l[k]) := by simp [h]
theorem Imp.dropE {L : List Assn} : ∀ (E : List Assn), Imp (E ++ L) L
  | [] => Imp.refl _
  | _ :: E => Imp.dropTail (Imp.dropE E)
set_option maxHeartbeats 32000000 in
set_option maxRecDepth 10000 in
theorem vopens_ro (a : Option Addr) (n c : Nat) (l : List ByteArray) (ring : Int) (hn : n = l.length) (hr64 : -9223372036854775808 ≤ ring ∧ ring ≤ 9223372036854775807) :
    RO G 4 [.slice a n c, .int .i64 ring] (fun h => ErrT h ∧ readS a n 1 (l.map Value.string) h) (.bool true) := by
  refine RO.enter Tryz.func4 rfl (by decide) rfl Tryz.ntmps4 rfl (fun A hu hA => ?_) (up_and up_ErrT (up_readS _ _ _ _))
  have hT : ∀ {L}, A ∈ L → Ent L ErrT := fun m => Ent.mem m hu fun k x => (hA k x).1
  have hE : ∀ {L}, A ∈ L → Ent L (readS a n 1 (l.map Value.string)) := fun m => Ent.mem m hu fun k x => (hA k x).2
  have hce : ∀ {L} {ch : Chain} {c : Int}, chainR ch c ∈ L → A ∈ L → Ent L (chainE ch c) := fun m1 m2 => Ent.and (hT m2) (Ent.mem m1 (up_chainR _ _) (fun _ x => x))
  have hw : widest = 1152921504606846975 := rfl
  repeat (first | refine GO ?_ | refine NW fun _ => ?_)
  refine WL.step rfl (OP.callRO rfl rfl vawake_ro (fun _ _ => trivial) rfl rfl ?_)
  by_cases h40 : 40 < n
  · repeat (first | refine GD ?_ | refine NW fun _ => ?_)
    refine WL.step rfl (OP.callRO rfl rfl vawake_ro (fun _ _ => trivial) rfl rfl ?_)
    repeat (first | refine GD ?_ | refine NW fun _ => ?_)
    exact ret1 rfl ⟨rfl, MM⟩
  repeat (first | refine GD ?_ | refine NW fun _ => ?_)
  refine WL.step rfl (OP.callRT rfl rfl (dnew_rt n) (fun _ _ => trivial) rfl rfl ?_)
  rintro _ _ ⟨p, rfl, rfl⟩
  repeat (first | refine GD ?_ | refine NW fun _ => ?_)
  refine WL.step rfl (OP.callRT rfl rfl (rdnew_rt n (by omega)) (fun _ _ => trivial) rfl rfl ?_)
  rintro _ _ ⟨q, rfl, rfl⟩
  repeat (first | refine GD ?_ | refine NW fun _ => ?_)
  refine WC.loop (σ := Nat × Dsk) (fun z => z.1 ≤ n ∧ z.2.ok ∧ z.2.W.length ≤ z.1 ∧ z.2.S.length = n)
    (fun z => [(0, .val (.slice a n c)), (1, .val (.int .i64 ring)), (5, .val (.pointer (some ⟨p, 0, none⟩))), (6, .val (.pointer (some ⟨q, 0, none⟩))), (32, .val (.int .i64 n)), (33, .val (.int .i64 z.1))])
    (fun z => [dsk p z.2, rdsk q z.2, A]) (fun z => n - z.1) (0, Dsk.new n) ⟨Nat.zero_le _, Dsk.new_ok _, Nat.le_refl _, by unfold Dsk.new; rw [List.length_replicate]; omega⟩ ⟨rfl, rfl, rfl, rfl, rfl, rfl, trivial⟩ II ?_
  rintro ⟨k, D⟩ ⟨hk1, hD, hW, hS⟩
  dsimp only at hk1 hD hW hS ⊢
  by_cases hlt : k < n
  · have hlk : k < l.length := by omega
    refine WC.fact (Ent.some (hE MM) (by omega)) ?_
    rintro ⟨b, off, rfl⟩
    have hel : ∀ {L}, A ∈ L → Ent L (cellAt b (off + k * 1) (.string l[k])) := fun m => Ent.elem (hE m) rfl (strs_get hlk)
    generalize l[k] = s at *
    have hsb : s = ba s.data.toList := (ba_data s).symm
    generalize hsl : s.data.toList = sl at *
    subst hsb
    repeat (first | refine GD ?_ | refine NW fun _ => ?_)
    refine WL.step rfl (OP.load1 (v := .string (ba sl)) rfl rfl rfl rfl (hel MM) rfl rfl ?_)
    have hsz := ba_size sl
    by_cases h300 : 300 < (ba sl).size
    · repeat (first | refine GD ?_ | refine NW fun _ => ?_)
      exact ret1 rfl ⟨rfl, MM⟩
    repeat (first | refine GD ?_ | refine NW fun _ => ?_)
    refine WL.step rfl (OP.load1 (v := .string (ba sl)) rfl rfl rfl rfl (hel MM) rfl rfl ?_)
    refine WL.step rfl (OP.toBytes rfl rfl rfl rfl rfl rfl rfl rfl rfl rfl (fun bb cap => ?_))
    rw [strCells_ba, hsz]
    refine WL.step rfl (OP.call (pre := [dsk p D, ownS (some ⟨bb, 0, none⟩) sl.length cap 5 1 (sl.map byteV)]) rfl rfl (dwrite_ok p D k sl (some ⟨bb, 0, none⟩) cap (by omega) (by omega)) PS rfl rfl ?_)
    intro x M hM
    have hrw := rdwrite_ok q D k sl (by omega)
    unfold WrPost at hM
    by_cases h64 : sl.length = 64
    · rw [if_pos ⟨by omega, h64⟩, Int.toNat_natCast] at hM
      obtain ⟨rfl, rfl⟩ := hM
      repeat (first | refine GD ?_ | refine NW fun _ => ?_)
      refine WL.step rfl (OP.load1 (v := .string (ba sl)) rfl rfl rfl rfl (hel MM) rfl rfl ?_)
      refine WL.step rfl (OP.call (pre := [rdsk q D]) rfl rfl hrw PS rfl rfl ?_)
      intro x M hM
      unfold RWrPost at hM
      rw [if_pos ⟨by omega, h64⟩, Int.toNat_natCast] at hM
      obtain ⟨rfl, rfl⟩ := hM
      repeat (first | refine GD ?_ | refine NW fun _ => ?_)
      exact ⟨(k + 1, D.put k sl), ⟨by dsimp only; omega, Dsk.put_ok hD (by omega) h64, by show (D.W ++ [_]).length ≤ k + 1; simp; exact hW, hS⟩, by dsimp only; omega, ⟨rfl, rfl, rfl, rfl, rfl, rfl, trivial⟩, II⟩
    · rw [if_neg (fun h => h64 h.2)] at hM
      obtain ⟨E, _, rfl⟩ := hM
      rw [List.append_assoc]
      refine WL.imp (M := [dsk p D, rdsk q D, A]) (Imp.dropE E) ?_
      repeat (first | refine GD ?_ | refine NW fun _ => ?_)
      refine WL.step rfl (OP.load1 (v := .string (ba sl)) rfl rfl rfl rfl (hel MM) rfl rfl ?_)
      refine WL.step rfl (OP.call (pre := [rdsk q D]) rfl rfl hrw PS rfl rfl ?_)
      intro x M hM
      unfold RWrPost at hM
      rw [if_neg (fun h => h64 h.2)] at hM
      obtain ⟨rfl, rfl⟩ := hM
      repeat (first | refine GD ?_ | refine NW fun _ => ?_)
      exact ⟨(k + 1, D), ⟨by dsimp only; omega, hD, by dsimp only; omega, hS⟩, by dsimp only; omega, ⟨rfl, rfl, rfl, rfl, rfl, rfl, trivial⟩, II⟩
  repeat (first | refine GD ?_ | refine NW fun _ => ?_)
  refine WL.step rfl (OP.call (pre := [dsk p D]) rfl rfl (dflush_ok p D hD (by omega)) PS rfl rfl ?_)
  rintro _ _ ⟨rfl, rfl⟩
  repeat (first | refine GD ?_ | refine NW fun _ => ?_)
  refine WL.step rfl (OP.call (pre := [rdsk q D]) rfl rfl (rdflush_ok q D hD (by omega)) PS rfl rfl ?_)
  rintro _ _ ⟨rfl, rfl⟩
  have hD2 : D.flush.ok := Dsk.settle_ok hD _
  have hw2 : D.flush.W.length = 0 := rfl
  generalize D.flush = D2 at *
  have hop := vopen_ok p D2 ring hD2 (by omega) hr64
  have hrop := rvopen_ok q D2 ring hD2 (by omega) hr64
  unfold OpenVP at hop
  unfold ROpenVP at hrop
  cases hq : openV D2 ring with
  | error y =>
    obtain ⟨ye, c5⟩ := y
    rw [hq] at hop hrop
    obtain ⟨⟨s, rfl, hs⟩, hc0⟩ := openV_err hq
    repeat (first | refine GD ?_ | refine NW fun _ => ?_)
    refine WL.step rfl (OP.call (pre := [dsk p D2]) rfl rfl hop PS rfl rfl ?_)
    rintro x M ⟨e, E, ⟨ch, hch, rfl, rfl⟩, rfl, rfl⟩
    repeat (first | refine GD ?_ | refine NW fun _ => ?_)
    refine WL.step rfl (OP.call (pre := [rdsk q D2]) rfl rfl hrop PS rfl rfl ?_)
    rintro x M ⟨rfl, rfl⟩
    repeat (first | refine GD ?_ | refine NW fun _ => ?_)
    refine WL.step rfl (OP.callRO rfl rfl (vplace_err ch c5 ring s hch (chain_len hch hs) hc0) (hce MM MM) rfl rfl ?_)
    repeat (first | refine GD ?_ | refine NW fun _ => ?_)
    exact ret1 rfl ⟨rfl, MM⟩
  | ok y =>
    obtain ⟨V, D3⟩ := y
    rw [hq] at hop hrop
    obtain ⟨hV, hB, hR⟩ := openV_ok hD2 hq
    have hJl : V.J.held.length ≤ 512 := by have := hV.J.2; have := hV.J.1; omega
    have hrb : ∀ x ∈ V.J.held, x.2.2.1 = 1 → 0 ≤ x.2.2.2.1 ∧ x.2.2.2.1 < 8 := fun x hx => right_block (hR x hx)
    repeat (first | refine GD ?_ | refine NW fun _ => ?_)
    refine WL.step rfl (OP.call (pre := [dsk p D2]) rfl rfl hop PS rfl rfl ?_)
    rintro x M ⟨v, rfl, rfl⟩
    repeat (first | refine GD ?_ | refine NW fun _ => ?_)
    refine WL.step rfl (OP.call (pre := [rdsk q D2]) rfl rfl hrop PS rfl rfl ?_)
    rintro x M ⟨rv, rfl, rfl⟩
    repeat (first | refine GD ?_ | refine NW fun _ => ?_)
    refine WL.step rfl (OP.callRO rfl rfl (vplace_nil ring) (fun _ _ => trivial) rfl rfl ?_)
    repeat (first | refine GD ?_ | refine NW fun _ => ?_)
    refine WC.loop (σ := Nat) (fun i => i ≤ 8)
      (fun i => [(8, .val (.pointer (some ⟨v, 0, none⟩))), (10, .val (.pointer (some ⟨rv, 0, none⟩))), (88, .val (.int .i64 i))])
      (fun i => [vol v p V, rvol rv q V, A]) (fun i => 8 - i) 0 (Nat.zero_le _) ⟨rfl, rfl, rfl, trivial⟩ II ?_
    rintro i8 hi8
    by_cases hil8 : i8 < 8
    · have hrd := vread_rt v p V i8 hV
      have hrr := rvread_ro rv q V i8 hV.l8 hJl hrb hB
      unfold VReadPost at hrd
      unfold RVReadV at hrr
      have hrv : readV V i8 = .ok (V.blks.getD i8 plc0).2 := by unfold readV; rw [if_neg (by omega), Int.toNat_natCast]
      rw [hrv] at hrd hrr
      generalize (V.blks.getD i8 plc0).2 = t at *
      repeat (first | refine GD ?_ | refine NW fun _ => ?_)
      refine WL.step rfl (OP.callRT rfl rfl hrd (Ent.at (up_vol _ _ _) MM) rfl rfl ?_)
      rintro _ _ ⟨rfl, rfl⟩
      repeat (first | refine GD ?_ | refine NW fun _ => ?_)
      refine WL.step rfl (OP.callRO rfl rfl hrr (Ent.at (up_rvol _ _ _) MM) rfl rfl ?_)
      repeat (first | refine GD ?_ | refine NW fun _ => ?_)
      rw [decide_eq_true (rfl : t = t)]
      repeat (first | refine GD ?_ | refine NW fun _ => ?_)
      exact ⟨i8 + 1, by omega, by omega, ⟨rfl, rfl, rfl, trivial⟩, II⟩
    repeat (first | refine GD ?_ | refine NW fun _ => ?_)
    refine WC.open (Ls := rvolL rv q V) P1 (fun y => ?_)
    unfold rvolL rjrnL
    dsimp only [List.cons_append, List.nil_append]
    refine RD 21 21 (_) ?_
    refine WP 0 ?_
    refine WP 2 ?_
    refine WP 3 ?_
    refine WP 4 ?_
    refine VV 5 ?_
    refine WP 6 ?_
    refine WP 7 ?_
    refine VV 8 ?_
    refine WH.only 1 rfl rfl (by kernel_rfl) rfl (OP.callRT rfl rfl (vrecords_rt v p V hV) (Ent.at (up_vol _ _ _) MM) rfl rfl (fun v E hE' => ?_))
    obtain ⟨a4, cap4, rfl, rfl⟩ := hE'
    refine ⟨fun _ => II, ?_⟩
    refine WH.only 9 rfl rfl (by kernel_rfl) rfl (OP.callRO rfl rfl (jsame_ro a4 y.2.1 V.J.held.length cap4 V.J.held.length y.2.2.1 (V.J.held.map Prod.snd) (V.J.held.map Prod.snd) (by simp) (by simp) (by omega)) (Ent.and (by rw [← recs_flat']; exact Ent.own (T := 42) MM) (by rw [← recs_flat']; exact Ent.own (T := 42) MM)) rfl rfl ⟨fun _ => II, ?_⟩)
    rw [decide_eq_true rfl]
    refine WP 10 ?_
    refine WP 11 ?_
    refine WP 13 ?_
    refine WP 14 ?_
    refine WP 15 ?_
    refine VV 16 ?_
    refine WH.onlyG (q := true) 12 rfl rfl rfl rfl rfl rfl rfl (by kernel_rfl) rfl (.inl rfl) (fun _ => OP.callRO rfl rfl (vnext_ro v p V hV) (Ent.at (up_vol _ _ _) MM) rfl rfl ⟨fun _ => II, ?_⟩) (fun h => nomatch h)
    refine WH.onlyG (q := true) 17 rfl rfl rfl rfl rfl rfl rfl (by kernel_rfl) rfl (.inl rfl) (fun _ => OP.callRO rfl rfl (rnext_ro y.1 q V.J hV.J) (Ent.exI y.2 (by unfold rjrnL; exact II)) rfl rfl ⟨fun _ => II, ?_⟩) (fun h => nomatch h)
    refine WP 18 ?_
    rw [decide_eq_true rfl]
    refine WP 19 ?_
    refine WP 20 ?_
    refine DN ?_
    repeat (first | refine GD ?_ | refine NW fun _ => ?_)
    exact ret1 rfl ⟨rfl, MM⟩
end Go.Proofs.YteednjcoapmkaaaGreatDoor
namespace Go.Proofs.YteednjcoapmkaaaGreatDoor
open Go Go.GL Go.ChangeShapes Go.WideShapes Go.ChangeAt Go.RowKit
open Go.ChangeMaps (open_string shut_string)
set_option linter.unusedVariables false

theorem ownVolumeOpens : ownKnob Tryz.prog.godebug = none := by kernel_rfl
theorem laidOutVolumeOpens : laidOutB Tryz.prog = true := by kernel_rfl
theorem etVolumeOpens : Tryz.prog.globalNamed "errors.errorType" = some 0 := by kernel_rfl
theorem rtVolumeOpens : (Tryz.prog.cutTypes.find? (·.1 == "internal/reflectlite.rtype")).map (·.2) = some 191 := by kernel_rfl
theorem oneRowVolumeOpens : ((List.range 243).filter fun t => Tryz.prog.rowNamed t [101, 114, 114, 111, 114]) = [31] := by kernel_rfl
theorem sizeVolumeOpens : Tryz.prog.types.size = 243 := by kernel_rfl
theorem handleVolumeOpens {W : World} (h : laidMetH Tryz.prog [("errors.errorType", Rows.laid_errors_errorType)] W) : W.cell? ⟨0, 0, none⟩ = some errT := by
  have h' : laidMet Tryz.prog [] W ∧ handlesMet Tryz.prog [("errors.errorType", Rows.laid_errors_errorType)] W := h
  obtain ⟨name, u, ty, e1, e2, e3, e4, e5⟩ := h'.2 _ (List.mem_singleton.2 rfl)
  have en : name = [101, 114, 114, 111, 114] := (Option.some.inj e1).symm
  subst en
  obtain rfl := Option.some.inj (rtVolumeOpens.symm.trans e2)
  have hm : ty ∈ (List.range 243).filter fun t => Tryz.prog.rowNamed t [101, 114, 114, 111, 114] := List.mem_filter.2 ⟨List.mem_range.2 (by rw [← sizeVolumeOpens]; exact e3), e4⟩
  rw [oneRowVolumeOpens] at hm
  obtain rfl := List.mem_singleton.1 hm
  have hh : typeHandle Tryz.prog 31 = .pointer (some ⟨1, 31, none⟩) := by kernel_rfl
  rw [hh] at e5
  have := World.var?_cell etVolumeOpens e5 0
  simpa [errT, rt, hd] using this
theorem cellAt_of {w : World} {b off : Nat} {v : Value} (h : w.cell? ⟨b, off, none⟩ = some v) : cellAt b off v (hpOf w) := by
  unfold World.cell? at h
  split at h
  · rename_i c T fr hb
    exact ⟨c, T, fr, hpOf_obj.2 hb, by simpa using h⟩
  · cases h
noncomputable def laidWorld (os : Os) : World :=
  let w0 := World.holding Tryz.prog os ⟨#[], #[], []⟩
  { w0 with heap := w0.heap.modify 0 fun
      | .cells _ t frozen => .cells #[.iface 191 (.agg #[.pointer (some ⟨1, 31, none⟩)])] t frozen
      | o => o }
theorem laidWorld_met (os : Os) (args : Array Value) : laidMetH Tryz.prog [("errors.errorType", Rows.laid_errors_errorType)] ((laidWorld os).forCall (fun _ _ => 0) ⟨#[], args, []⟩).memory :=
  laidMetH_of_parts (laidMet_nil _ _) (by kernel_rfl)
set_option maxRecDepth 100000 in
theorem liftedVolumeOpens (os : Os) (started : os.Started) (H : Type) (enc : TypeId × Value → H) :
    ReturnsInHanded {} Tryz.checked os 4 .any (fun w args => (Rows.volumeOpensSpec.pre enc Tryz.prog Tryz.f4 [] false w args ∧ laidMetH Tryz.prog [("errors.errorType", Rows.laid_errors_errorType)] w) ∧ sizedMet enc Tryz.prog Tryz.f4 (OpenSpec.ofChange Rows.volumeOpensSpec) false w args)
      (Rows.volumeOpensSpec.post enc Tryz.prog Tryz.f4 false true false false) := by
  refine returnsInHanded_of_change_and (C := Tryz.checked) (X := fun w _ => laidMetH Tryz.prog [("errors.errorType", Rows.laid_errors_errorType)] w) (fun _ _ _ hh h => h.of_heap hh) ownVolumeOpens started (by kernel_rfl) Tryz.func4
    (ChangeSpec.witness_at (enc := enc) (C := Tryz.checked) (os := os) (X := fun w _ => laidMetH Tryz.prog [("errors.errorType", Rows.laid_errors_errorType)] w) false (laidWorld os) #[.slice none 0 0, .int .i64 0] 8 rfl (by kernel_rfl) (by kernel_rfl) (by kernel_rfl) (by kernel_rfl) (by kernel_rfl) (laidWorld_met os _)) ?_
  intro W base args ds gs before hval0 hW _ _ hL _
  have hval : ∀ (j : Nat) t v, Tryz.f4.params[j]? = some t → args[j]? = some v → Value.okWide Tryz.prog W .any base t v := hval0
  have hW' := hW
  obtain ⟨p, q, hA0, hV0, rfl, hfz, hnd⟩ := hW
  have hV : DataW.TrodVars enc Tryz.prog W (fun _ => true) [] gs q := hV0
  have hE := cellAt_of (handleVolumeOpens hL)
  have hA : DataW.TrodAll enc Tryz.prog W 0 (fun _ => true) true Tryz.f4.params.toList args.toList ds p := hA0
  rw [Tryz.params4] at hA hval
  obtain ⟨v0, vs0, d0, ds0, p0, q0, hargs, rfl, rfl, h0, r0⟩ := trodAll_cons hA
  obtain ⟨v1, vs1, d1, ds1, p1, q1, rfl, rfl, rfl, h1, r1⟩ := trodAll_cons r0
  obtain ⟨rfl, rfl, rfl⟩ := trodAll_nil r1
  obtain rfl : args = #[v0, v1] := by cases args; simp_all
  obtain ⟨rfl, rfl⟩ : gs = [] ∧ q = [] := by
    cases gs with
    | nil => exact ⟨rfl, hV⟩
    | cons g r => exact absurd hV (by intro h; cases h)
  have k0 := h0
  obtain ⟨a0, len0, cap0, rw0, rfl, hr0, hc0, hm0, ho0, R0⟩ := open_row (n := 4) (l := [.str]) Tryz.underlying60 (by kernel_rfl) (by kernel_rfl) (hval 0 60 v0 rfl rfl) h0
  obtain ⟨l0, hl0, hn0, w0⟩ := rows_strs ho0
  rw [hl0] at R0
  rw [hr0] at hn0
  have k1 := h1
  obtain ⟨a1, rfl, _, _, w1⟩ := open_int Tryz.underlying3 (hval 1 3 v1 rfl rfl) h1
  clear hA0 hval0
  refine ((vopens_ro a0 len0 cap0 l0 a1 hn0.symm (wf_i64 w1)).calls W ⟨hE, R0⟩).mono fun e W' ⟨he, ext⟩ => ?_
  subst he
  exact ⟨_, rfl, _, _, _, [], _, [], hW', trodAll_mk1 (shut_bool Tryz.underlying4 _), (trodAll_cons_mk (GL.Ext.trod laidOutVolumeOpens (by kernel_rfl) (of_decide_eq_true (by kernel_rfl)) k0 ext) (trodAll_cons_mk (GL.Ext.trod laidOutVolumeOpens (by kernel_rfl) (of_decide_eq_true (by kernel_rfl)) k1 ext) trodAll_mk0)), rfl, ext.keptBut _, fun h => by cases h⟩
theorem overVolumeOpens : Rows.volumeOpensRow.holds Tryz.pinned (OpenSpec.ofChange Rows.volumeOpensSpec) :=
  OpenClaim.holds_of_wide 4 Tryz.f4 rfl rfl rfl rfl rfl rfl rfl ⟨rfl, rfl, rfl, rfl, rfl⟩ rfl rfl rfl rfl rfl (by kernel_rfl) Tryz.func4 (by kernel_rfl)
    (of_decide_eq_true (by kernel_rfl)) (by unfold Func.isWrapper; first | (rw [if_pos (by decide +kernel)]; kernel_rfl) | (rw [if_neg (by decide +kernel)]; exact ⟨rfl, rfl⟩))
    (fun os started H enc _ => liftedVolumeOpens os started H enc)
theorem volumeOpens_holds : Rows.VolumeOpensCardSaid :=
  Claim7.holds_tied_plain_at .later [] [.handle] true (true, "d1f198fc5a8f50bf9b671a66854bca27a58506cecb5c7e0f5aee302ee094fc1c") true
    overVolumeOpens (fun _ h => by cases h) (by kernel_rfl) (fun _ h => by cases h) volumeOpens_row_tie rfl ⟨rfl, rfl⟩ (by kernel_rfl) rfl
    (fun f fn hf hfn => by
      obtain rfl : f = 4 := Option.some.inj ((show Tryz.prog.funcNamed Rows.volumeOpensRow.func = some 4 by kernel_rfl).symm.trans hf) |>.symm
      obtain rfl : fn = Tryz.f4 := (Option.some.inj (Tryz.func4.symm.trans hfn)).symm
      exact ⟨by kernel_rfl, fun j t ht => by
        rw [Tryz.params4] at ht
        match j, ht with
        | 0, ht => obtain rfl : 60 = t := by simpa using ht
                   exact (show Tryz.prog.wantsStandIn 60 = false by kernel_rfl)
        | 1, ht => obtain rfl : 3 = t := by simpa using ht
                   exact (show Tryz.prog.wantsStandIn 3 = false by kernel_rfl)
        | (k + 2), ht => simp at ht⟩)
    (by kernel_rfl)
end Go.Proofs.YteednjcoapmkaaaGreatDoor
