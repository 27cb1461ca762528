/-
  The law RecordDecodes holds: whatever the input, the Go function returns true, and each argument reads as it did. Conditions: none beyond the statement's own.
-/
import Derived.Test.YtkoakmaihcheaacDoorRows
import Derived.Test.YtkoakmaihcheaacDoorTie
import Derived.Test.YtkoakmaihcheaacDoorCards
import Derived.Test.YtkoakmaihcheaacDoorGLm
import Derived.Test.YtkoakmaihcheaacDoorQ7
import Derived.ChangeSame
import Derived.ChangeVars
import Derived.JoinedOf
import Derived.RowKit
import Derived.RowKitTokens
import Derived.LaidLaws
import Derived.LaidHandle
import Derived.Stop.Joined
import Derived.SevenTiedAt
namespace Go.Proofs.YtkoakmaihcheaacDoor
open Go Go.GL Go.ChangeShapes Go.WideShapes Go.ChangeAt Go.RowKit
open Go.ChangeMaps (open_string shut_string)
set_option linter.unusedVariables false

theorem ownRecordDecodes : ownKnob Tryd.prog.godebug = none := by kernel_rfl
theorem laidOutRecordDecodes : laidOutB Tryd.prog = true := by kernel_rfl
theorem etRecordDecodes : Tryd.prog.globalNamed "errors.errorType" = some 0 := by kernel_rfl
theorem rtRecordDecodes : (Tryd.prog.cutTypes.find? (·.1 == "internal/reflectlite.rtype")).map (·.2) = some 128 := by kernel_rfl
theorem oneRowRecordDecodes : ((List.range 187).filter fun t => Tryd.prog.rowNamed t [101, 114, 114, 111, 114]) = [48] := by kernel_rfl
theorem sizeRecordDecodes : Tryd.prog.types.size = 187 := by kernel_rfl
theorem handleRecordDecodes {W : World} (h : laidMetH Tryd.prog [("errors.errorType", Rows.laid_errors_errorType)] W) : W.cell? ⟨0, 0, none⟩ = some errT := by
  have h' : laidMet Tryd.prog [] W ∧ handlesMet Tryd.prog [("errors.errorType", Rows.laid_errors_errorType)] W := h
  obtain ⟨name, u, ty, e1, e2, e3, e4, e5⟩ := h'.2 _ (List.mem_singleton.2 rfl)
  have en : name = [101, 114, 114, 111, 114] := (Option.some.inj e1).symm
  subst en
  obtain rfl := Option.some.inj (rtRecordDecodes.symm.trans e2)
  have hm : ty ∈ (List.range 187).filter fun t => Tryd.prog.rowNamed t [101, 114, 114, 111, 114] := List.mem_filter.2 ⟨List.mem_range.2 (by rw [← sizeRecordDecodes]; exact e3), e4⟩
  rw [oneRowRecordDecodes] at hm
  obtain rfl := List.mem_singleton.1 hm
  have hh : typeHandle Tryd.prog 48 = .pointer (some ⟨5, 48, none⟩) := by kernel_rfl
  rw [hh] at e5
  have := World.var?_cell etRecordDecodes e5 0
  simpa [errT, rt, hd] using this
theorem cellAt_of {w : World} {b off : Nat} {v : Value} (h : w.cell? ⟨b, off, none⟩ = some v) : cellAt b off v (hpOf w) := by
  unfold World.cell? at h
  split at h
  · rename_i c T fr hb
    exact ⟨c, T, fr, hpOf_obj.2 hb, by simpa using h⟩
  · cases h
noncomputable def laidWorld (os : Os) : World :=
  let w0 := World.holding Tryd.prog os ⟨#[], #[], []⟩
  { w0 with heap := w0.heap.modify 0 fun
      | .cells _ t frozen => .cells #[.iface 128 (.agg #[.pointer (some ⟨5, 48, none⟩)])] t frozen
      | o => o }
theorem laidWorld_met (os : Os) (args : Array Value) : laidMetH Tryd.prog [("errors.errorType", Rows.laid_errors_errorType)] ((laidWorld os).forCall (fun _ _ => 0) ⟨#[], args, []⟩).memory :=
  laidMetH_of_parts (laidMet_nil _ _) (by kernel_rfl)
set_option maxRecDepth 100000 in
theorem liftedRecordDecodes (os : Os) (started : os.Started) (H : Type) (enc : TypeId × Value → H) :
    ReturnsInHanded {} Tryd.checked os 5 .any (fun w args => (Rows.recordDecodesSpec.pre enc Tryd.prog Tryd.f5 [] false w args ∧ laidMetH Tryd.prog [("errors.errorType", Rows.laid_errors_errorType)] w) ∧ sizedMet enc Tryd.prog Tryd.f5 (OpenSpec.ofChange Rows.recordDecodesSpec) false w args)
      (Rows.recordDecodesSpec.post enc Tryd.prog Tryd.f5 false true false false) := by
  refine returnsInHanded_of_change_and (C := Tryd.checked) (X := fun w _ => laidMetH Tryd.prog [("errors.errorType", Rows.laid_errors_errorType)] w) (fun _ _ _ hh h => h.of_heap hh) ownRecordDecodes started (by kernel_rfl) Tryd.func5
    (ChangeSpec.witness_at (enc := enc) (C := Tryd.checked) (os := os) (X := fun w _ => laidMetH Tryd.prog [("errors.errorType", Rows.laid_errors_errorType)] w) false (laidWorld os) #[.string ByteArray.empty] 8 rfl (by kernel_rfl) (by kernel_rfl) (by kernel_rfl) (by kernel_rfl) (by kernel_rfl) (laidWorld_met os _)) ?_
  intro W base args ds gs before hval0 hW _ _ hL _
  have hval : ∀ (j : Nat) t v, Tryd.f5.params[j]? = some t → args[j]? = some v → Value.okWide Tryd.prog W .any base t v := hval0
  have hW' := hW
  obtain ⟨p, q, hA0, hV0, rfl, hfz, hnd⟩ := hW
  have hV : DataW.TrodVars enc Tryd.prog W (fun _ => true) [] gs q := hV0
  have hE := cellAt_of (handleRecordDecodes hL)
  have hA : DataW.TrodAll enc Tryd.prog W 0 (fun _ => true) true Tryd.f5.params.toList args.toList ds p := hA0
  rw [Tryd.params5] at hA hval
  obtain ⟨v0, vs0, d0, ds0, p0, q0, hargs, rfl, rfl, h0, r0⟩ := trodAll_cons hA
  obtain ⟨rfl, rfl, rfl⟩ := trodAll_nil r0
  obtain rfl : args = #[v0] := by cases args; simp_all
  obtain ⟨rfl, rfl⟩ : gs = [] ∧ q = [] := by
    cases gs with
    | nil => exact ⟨rfl, hV⟩
    | cons g r => exact absurd hV (by intro h; cases h)
  have k0 := h0
  obtain ⟨a0, rfl, _, _, w0⟩ := open_string Tryd.underlying9 (hval 0 9 v0 rfl rfl) h0
  clear hA0 hval0
  refine ((decodes_ro a0).calls W hE).mono fun e W' ⟨he, ext⟩ => ?_
  subst he
  exact ⟨_, rfl, _, _, _, [], _, [], hW', trodAll_mk1 (shut_bool Tryd.underlying4 _), (trodAll_cons_mk (GL.Ext.trod laidOutRecordDecodes (by kernel_rfl) (of_decide_eq_true (by kernel_rfl)) k0 ext) trodAll_mk0), rfl, ext.keptBut _, fun h => by cases h⟩
theorem overRecordDecodes : Rows.recordDecodesRow.holds Tryd.pinned (OpenSpec.ofChange Rows.recordDecodesSpec) :=
  OpenClaim.holds_of_wide 5 Tryd.f5 rfl rfl rfl rfl rfl rfl rfl ⟨rfl, rfl, rfl, rfl, rfl⟩ rfl rfl rfl rfl rfl (by kernel_rfl) Tryd.func5 (by kernel_rfl)
    (of_decide_eq_true (by kernel_rfl)) (by unfold Func.isWrapper; first | (rw [if_pos (by decide +kernel)]; kernel_rfl) | (rw [if_neg (by decide +kernel)]; exact ⟨rfl, rfl⟩))
    (fun os started H enc _ => liftedRecordDecodes os started H enc)
theorem recordDecodes_holds : Rows.RecordDecodesCardSaid :=
  Claim7.holds_tied_plain_at .later [] [.handle] true (true, "0485ea14fdd9d7b3687f571401449f26f4231a18c0263b0c55c2ca5d704892f5") true
    overRecordDecodes (fun _ h => by cases h) (by kernel_rfl) (fun _ h => by cases h) recordDecodes_row_tie rfl ⟨rfl, rfl⟩ (by kernel_rfl) rfl
    (fun f fn hf hfn => by
      obtain rfl : f = 5 := Option.some.inj ((show Tryd.prog.funcNamed Rows.recordDecodesRow.func = some 5 by kernel_rfl).symm.trans hf) |>.symm
      obtain rfl : fn = Tryd.f5 := (Option.some.inj (Tryd.func5.symm.trans hfn)).symm
      exact ⟨by kernel_rfl, fun j t ht => by
        rw [Tryd.params5] at ht
        match j, ht with
        | 0, ht => obtain rfl : 9 = t := by simpa using ht
                   exact (show Tryd.prog.wantsStandIn 9 = false by kernel_rfl)
        | (k + 1), ht => simp at ht⟩)
    (by kernel_rfl)
end Go.Proofs.YtkoakmaihcheaacDoor
