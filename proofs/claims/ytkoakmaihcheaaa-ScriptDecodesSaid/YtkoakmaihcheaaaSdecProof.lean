/-
  The law ScriptDecodes holds: whatever the input, the Go function returns true, and each argument reads as it did. Conditions: none beyond the statement's own.
-/
import Derived.Test.YtkoakmaihcheaaaRows
import Derived.Test.YtkoakmaihcheaaaGLm
import Derived.Test.YtkoakmaihcheaaaS6
namespace Go.Proofs.Ytkoakmaihcheaaa
open Go Go.GL Go.ChangeShapes Go.WideShapes Go.ChangeAt Go.RowKit
open Go.ChangeMaps (open_string shut_string)
set_option linter.unusedVariables false

theorem ownScriptDecodes : ownKnob Try.prog.godebug = none := by kernel_rfl
theorem laidOutScriptDecodes : laidOutB Try.prog = true := by kernel_rfl
set_option maxRecDepth 100000 in
theorem liftedScriptDecodes (os : Os) (started : os.Started) (H : Type) (enc : TypeId × Value → H) :
    ReturnsInHanded {} Try.checked os 3 .any (Rows.scriptDecodesSpec.pre6 enc Try.prog Try.f3 Rows.scriptDecodesRow.domain false) (Rows.scriptDecodesSpec.post enc Try.prog Try.f3 false true false false) := by
  refine returnsInHanded_of_change (C := Try.checked) ownScriptDecodes started (by kernel_rfl) Try.func3
    (ChangeSpec.witness6 (enc := enc) (C := Try.checked) false ⟨#[], #[.string ByteArray.empty], []⟩ 8 (by kernel_rfl) (by kernel_rfl) (by kernel_rfl) (by kernel_rfl)) ?_
  intro W base args ds gs before hval0 hW hcnd _
  have hval : ∀ (j : Nat) t v, Try.f3.params[j]? = some t → args[j]? = some v → Value.okWide Try.prog W .any base t v := hval0
  have hW' := hW
  obtain ⟨p, q, hA0, hV, rfl, hfz, hnd⟩ := hW
  have hA : DataW.TrodAll enc Try.prog W 0 (fun _ => true) true Try.f3.params.toList args.toList ds p := hA0
  rw [Try.params3] at hA hval
  obtain ⟨v0, vs0, d0, ds0, p0, q0, hargs, rfl, rfl, h0, r0⟩ := trodAll_cons hA
  obtain ⟨rfl, rfl, rfl⟩ := trodAll_nil r0
  obtain rfl : args = #[v0] := by cases args; simp_all
  obtain ⟨rfl, rfl⟩ := trodVars_none hV
  have k0 := h0
  obtain ⟨a0, rfl, _, _, w0⟩ := open_string Try.underlying9 (hval 0 9 v0 rfl rfl) h0
  clear hA0 hval0
  refine ((sdec_ro a0).calls W trivial).mono fun e W' ⟨he, ext⟩ => ?_
  subst he
  exact ⟨_, rfl, _, _, _, [], _, [], hW', trodAll_mk1 (shut_bool Try.underlying4 _), (trodAll_cons_mk (GL.Ext.trod laidOutScriptDecodes (by kernel_rfl) (of_decide_eq_true (by kernel_rfl)) k0 ext) trodAll_mk0), rfl, ext.keptBut _, fun h => by cases h⟩
theorem overScriptDecodes : Rows.scriptDecodesRow.holds Try.pinned (OpenSpec.ofChange Rows.scriptDecodesSpec) :=
  OpenClaim.holds_of_wide 3 Try.f3 rfl rfl rfl rfl rfl rfl rfl ⟨rfl, rfl, rfl, rfl, rfl⟩ rfl rfl rfl rfl rfl (by kernel_rfl) Try.func3 (by kernel_rfl)
    (of_decide_eq_true (by kernel_rfl)) (by unfold Func.isWrapper; first | (rw [if_pos (by decide +kernel)]; kernel_rfl) | (rw [if_neg (by decide +kernel)]; exact ⟨rfl, rfl⟩))
    (fun os started H enc _ => liftedScriptDecodes os started H enc)
theorem scriptDecodes_holds : Rows.ScriptDecodesSaid := overScriptDecodes
end Go.Proofs.Ytkoakmaihcheaaa
