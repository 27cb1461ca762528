/-
  The law JournalPlays holds: whatever the input, the Go function returns true, and each argument reads as it did. Conditions: none beyond the statement's own.
-/
import Derived.Test.YteednjcoapmkaaaGreatDoorRows
import Derived.Test.YteednjcoapmkaaaGreatDoorTie
import Derived.Test.YteednjcoapmkaaaGreatDoorCards
import Derived.Test.YteednjcoapmkaaaGreatDoorZJournal5
import Derived.Test.YteednjcoapmkaaaGreatDoorZJournal20
import Derived.ChangeSame
import Derived.ChangeVars
import Derived.JoinedOf
import Derived.RowKit
import Derived.RowKitTokens
import Derived.LaidLaws
import Derived.LaidHandle
import Derived.Stop.Joined
import Derived.SevenTiedAt
namespace Go.Proofs.YteednjcoapmkaaaGreatDoor
open Go Go.GL Go.ChangeShapes Go.WideShapes Go.ChangeAt Go.RowKit
open Go.ChangeMaps (open_string shut_string)
set_option linter.unusedVariables false

theorem ownJournalPlays : ownKnob Tryz.prog.godebug = none := by kernel_rfl
theorem laidOutJournalPlays : laidOutB Tryz.prog = true := by kernel_rfl
theorem etJournalPlays : Tryz.prog.globalNamed "errors.errorType" = some 0 := by kernel_rfl
theorem rtJournalPlays : (Tryz.prog.cutTypes.find? (·.1 == "internal/reflectlite.rtype")).map (·.2) = some 191 := by kernel_rfl
theorem oneRowJournalPlays : ((List.range 243).filter fun t => Tryz.prog.rowNamed t [101, 114, 114, 111, 114]) = [31] := by kernel_rfl
theorem sizeJournalPlays : Tryz.prog.types.size = 243 := by kernel_rfl
theorem handleJournalPlays {W : World} (h : laidMetH Tryz.prog [("errors.errorType", Rows.laid_errors_errorType)] W) : W.cell? ⟨0, 0, none⟩ = some errT := by
  have h' : laidMet Tryz.prog [] W ∧ handlesMet Tryz.prog [("errors.errorType", Rows.laid_errors_errorType)] W := h
  obtain ⟨name, u, ty, e1, e2, e3, e4, e5⟩ := h'.2 _ (List.mem_singleton.2 rfl)
  have en : name = [101, 114, 114, 111, 114] := (Option.some.inj e1).symm
  subst en
  obtain rfl := Option.some.inj (rtJournalPlays.symm.trans e2)
  have hm : ty ∈ (List.range 243).filter fun t => Tryz.prog.rowNamed t [101, 114, 114, 111, 114] := List.mem_filter.2 ⟨List.mem_range.2 (by rw [← sizeJournalPlays]; exact e3), e4⟩
  rw [oneRowJournalPlays] at hm
  obtain rfl := List.mem_singleton.1 hm
  have hh : typeHandle Tryz.prog 31 = .pointer (some ⟨1, 31, none⟩) := by kernel_rfl
  rw [hh] at e5
  have := World.var?_cell etJournalPlays e5 0
  simpa [errT, rt, hd] using this
theorem cellAt_of {w : World} {b off : Nat} {v : Value} (h : w.cell? ⟨b, off, none⟩ = some v) : cellAt b off v (hpOf w) := by
  unfold World.cell? at h
  split at h
  · rename_i c T fr hb
    exact ⟨c, T, fr, hpOf_obj.2 hb, by simpa using h⟩
  · cases h
noncomputable def laidWorld (os : Os) : World :=
  let w0 := World.holding Tryz.prog os ⟨#[], #[], []⟩
  { w0 with heap := w0.heap.modify 0 fun
      | .cells _ t frozen => .cells #[.iface 191 (.agg #[.pointer (some ⟨1, 31, none⟩)])] t frozen
      | o => o }
theorem laidWorld_met (os : Os) (args : Array Value) : laidMetH Tryz.prog [("errors.errorType", Rows.laid_errors_errorType)] ((laidWorld os).forCall (fun _ _ => 0) ⟨#[], args, []⟩).memory :=
  laidMetH_of_parts (laidMet_nil _ _) (by kernel_rfl)
set_option maxRecDepth 100000 in
theorem liftedJournalPlays (os : Os) (started : os.Started) (H : Type) (enc : TypeId × Value → H) :
    ReturnsInHanded {} Tryz.checked os 3 .any (fun w args => (Rows.journalPlaysSpec.pre enc Tryz.prog Tryz.f3 [] false w args ∧ laidMetH Tryz.prog [("errors.errorType", Rows.laid_errors_errorType)] w) ∧ sizedMet enc Tryz.prog Tryz.f3 (OpenSpec.ofChange Rows.journalPlaysSpec) false w args)
      (Rows.journalPlaysSpec.post enc Tryz.prog Tryz.f3 false true false false) := by
  refine returnsInHanded_of_change_and (C := Tryz.checked) (X := fun w _ => laidMetH Tryz.prog [("errors.errorType", Rows.laid_errors_errorType)] w) (fun _ _ _ hh h => h.of_heap hh) ownJournalPlays started (by kernel_rfl) Tryz.func3
    (ChangeSpec.witness_at (enc := enc) (C := Tryz.checked) (os := os) (X := fun w _ => laidMetH Tryz.prog [("errors.errorType", Rows.laid_errors_errorType)] w) false (laidWorld os) #[.int .u8 0, .int .u8 0, .slice none 0 0] 8 rfl (by kernel_rfl) (by kernel_rfl) (by kernel_rfl) (by kernel_rfl) (by kernel_rfl) (laidWorld_met os _)) ?_
  intro W base args ds gs before hval0 hW _ _ hL _
  have hval : ∀ (j : Nat) t v, Tryz.f3.params[j]? = some t → args[j]? = some v → Value.okWide Tryz.prog W .any base t v := hval0
  have hW' := hW
  obtain ⟨p, q, hA0, hV0, rfl, hfz, hnd⟩ := hW
  have hV : DataW.TrodVars enc Tryz.prog W (fun _ => true) [] gs q := hV0
  have hE := cellAt_of (handleJournalPlays hL)
  have hA : DataW.TrodAll enc Tryz.prog W 0 (fun _ => true) true Tryz.f3.params.toList args.toList ds p := hA0
  rw [Tryz.params3] at hA hval
  obtain ⟨v0, vs0, d0, ds0, p0, q0, hargs, rfl, rfl, h0, r0⟩ := trodAll_cons hA
  obtain ⟨v1, vs1, d1, ds1, p1, q1, rfl, rfl, rfl, h1, r1⟩ := trodAll_cons r0
  obtain ⟨v2, vs2, d2, ds2, p2, q2, rfl, rfl, rfl, h2, r2⟩ := trodAll_cons r1
  obtain ⟨rfl, rfl, rfl⟩ := trodAll_nil r2
  obtain rfl : args = #[v0, v1, v2] := by cases args; simp_all
  obtain ⟨rfl, rfl⟩ : gs = [] ∧ q = [] := by
    cases gs with
    | nil => exact ⟨rfl, hV⟩
    | cons g r => exact absurd hV (by intro h; cases h)
  have k0 := h0
  obtain ⟨z0, rfl, _, _, w0⟩ := open_int Tryz.underlying5 (hval 0 5 v0 rfl rfl) h0
  obtain ⟨a0, rfl⟩ := byte_of w0
  have k1 := h1
  obtain ⟨z1, rfl, _, _, w1⟩ := open_int Tryz.underlying5 (hval 1 5 v1 rfl rfl) h1
  obtain ⟨a1, rfl⟩ := byte_of w1
  have k2 := h2
  obtain ⟨a2, len2, cap2, rw2, rfl, hr2, hc2, hm2, ho2, R2⟩ := open_row (n := 8) (l := [.int .i64, .int .i64, .int .i64, .int .i64, .int .i64, .str, .int .i64, .int .u64]) Tryz.underlying22 (by kernel_rfl) (by kernel_rfl) (hval 2 22 v2 rfl rfl) h2
  obtain ⟨l2, hl2, hn2, w2⟩ := rows_enc (fun x hx => jop_of (ho2 x hx))
  rw [hl2] at R2
  rw [hr2] at hn2
  clear hA0 hval0
  refine ((jplays_ro a0 a1 a2 len2 cap2 l2 hn2.symm (fun o ho => wf_i64 (w2 o ho).2.1) (fun o ho => by have := wf_u64 (w2 o ho).2.2; omega)).calls W ⟨hE, R2⟩).mono fun e W' ⟨he, ext⟩ => ?_
  subst he
  exact ⟨_, rfl, _, _, _, [], _, [], hW', trodAll_mk1 (shut_bool Tryz.underlying4 _), (trodAll_cons_mk (GL.Ext.trod laidOutJournalPlays (by kernel_rfl) (of_decide_eq_true (by kernel_rfl)) k0 ext) (trodAll_cons_mk (GL.Ext.trod laidOutJournalPlays (by kernel_rfl) (of_decide_eq_true (by kernel_rfl)) k1 ext) (trodAll_cons_mk (GL.Ext.trod laidOutJournalPlays (by kernel_rfl) (of_decide_eq_true (by kernel_rfl)) k2 ext) trodAll_mk0))), rfl, ext.keptBut _, fun h => by cases h⟩
theorem overJournalPlays : Rows.journalPlaysRow.holds Tryz.pinned (OpenSpec.ofChange Rows.journalPlaysSpec) :=
  OpenClaim.holds_of_wide 3 Tryz.f3 rfl rfl rfl rfl rfl rfl rfl ⟨rfl, rfl, rfl, rfl, rfl⟩ rfl rfl rfl rfl rfl (by kernel_rfl) Tryz.func3 (by kernel_rfl)
    (of_decide_eq_true (by kernel_rfl)) (by unfold Func.isWrapper; first | (rw [if_pos (by decide +kernel)]; kernel_rfl) | (rw [if_neg (by decide +kernel)]; exact ⟨rfl, rfl⟩))
    (fun os started H enc _ => liftedJournalPlays os started H enc)
theorem journalPlays_holds : Rows.JournalPlaysCardSaid :=
  Claim7.holds_tied_plain_at .later [] [.handle] true (true, "d1f198fc5a8f50bf9b671a66854bca27a58506cecb5c7e0f5aee302ee094fc1c") true
    overJournalPlays (fun _ h => by cases h) (by kernel_rfl) (fun _ h => by cases h) journalPlays_row_tie rfl ⟨rfl, rfl⟩ (by kernel_rfl) rfl
    (fun f fn hf hfn => by
      obtain rfl : f = 3 := Option.some.inj ((show Tryz.prog.funcNamed Rows.journalPlaysRow.func = some 3 by kernel_rfl).symm.trans hf) |>.symm
      obtain rfl : fn = Tryz.f3 := (Option.some.inj (Tryz.func3.symm.trans hfn)).symm
      exact ⟨by kernel_rfl, fun j t ht => by
        rw [Tryz.params3] at ht
        match j, ht with
        | 0, ht => obtain rfl : 5 = t := by simpa using ht
                   exact (show Tryz.prog.wantsStandIn 5 = false by kernel_rfl)
        | 1, ht => obtain rfl : 5 = t := by simpa using ht
                   exact (show Tryz.prog.wantsStandIn 5 = false by kernel_rfl)
        | 2, ht => obtain rfl : 22 = t := by simpa using ht
                   exact (show Tryz.prog.wantsStandIn 22 = false by kernel_rfl)
        | (k + 3), ht => simp at ht⟩)
    (by kernel_rfl)
end Go.Proofs.YteednjcoapmkaaaGreatDoor
