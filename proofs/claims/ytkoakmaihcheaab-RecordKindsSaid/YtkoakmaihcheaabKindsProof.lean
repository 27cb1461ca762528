/-
  The law RecordKinds holds: whatever the input, the Go function returns true, and each argument reads as it did. Conditions: none beyond the statement's own.
-/
import Derived.Test.YtkoakmaihcheaabRows
import Derived.Test.YtkoakmaihcheaabGLm
import Derived.Test.YtkoakmaihcheaabK1
namespace Go.Proofs.Ytkoakmaihcheaab
open Go Go.GL Go.ChangeShapes Go.WideShapes Go.ChangeAt Go.RowKit
open Go.ChangeMaps (open_string shut_string)
set_option linter.unusedVariables false

theorem ownRecordKinds : ownKnob Try.prog.godebug = none := by kernel_rfl
theorem laidOutRecordKinds : laidOutB Try.prog = true := by kernel_rfl
set_option maxRecDepth 100000 in
theorem liftedRecordKinds (os : Os) (started : os.Started) (H : Type) (enc : TypeId × Value → H) :
    ReturnsInHanded {} Try.checked os 3 .any (Rows.recordKindsSpec.pre6 enc Try.prog Try.f3 Rows.recordKindsRow.domain false) (Rows.recordKindsSpec.post enc Try.prog Try.f3 false true false false) := by
  refine returnsInHanded_of_change (C := Try.checked) ownRecordKinds started (by kernel_rfl) Try.func3
    (ChangeSpec.witness6 (enc := enc) (C := Try.checked) false ⟨#[], #[.int .u32 0, .int .u32 0, .int .i64 0, .string ByteArray.empty, .int .u32 0], []⟩ 8 (by kernel_rfl) (by kernel_rfl) (by kernel_rfl) (by kernel_rfl)) ?_
  intro W base args ds gs before hval0 hW hcnd _
  have hval : ∀ (j : Nat) t v, Try.f3.params[j]? = some t → args[j]? = some v → Value.okWide Try.prog W .any base t v := hval0
  have hW' := hW
  obtain ⟨p, q, hA0, hV, rfl, hfz, hnd⟩ := hW
  have hA : DataW.TrodAll enc Try.prog W 0 (fun _ => true) true Try.f3.params.toList args.toList ds p := hA0
  rw [Try.params3] at hA hval
  obtain ⟨v0, vs0, d0, ds0, p0, q0, hargs, rfl, rfl, h0, r0⟩ := trodAll_cons hA
  obtain ⟨v1, vs1, d1, ds1, p1, q1, rfl, rfl, rfl, h1, r1⟩ := trodAll_cons r0
  obtain ⟨v2, vs2, d2, ds2, p2, q2, rfl, rfl, rfl, h2, r2⟩ := trodAll_cons r1
  obtain ⟨v3, vs3, d3, ds3, p3, q3, rfl, rfl, rfl, h3, r3⟩ := trodAll_cons r2
  obtain ⟨v4, vs4, d4, ds4, p4, q4, rfl, rfl, rfl, h4, r4⟩ := trodAll_cons r3
  obtain ⟨rfl, rfl, rfl⟩ := trodAll_nil r4
  obtain rfl : args = #[v0, v1, v2, v3, v4] := by cases args; simp_all
  obtain ⟨rfl, rfl⟩ := trodVars_none hV
  have k0 := h0
  obtain ⟨a0, rfl, _, _, w0⟩ := open_int Try.underlying22 (hval 0 22 v0 rfl rfl) h0
  have k1 := h1
  obtain ⟨a1, rfl, _, _, w1⟩ := open_int Try.underlying22 (hval 1 22 v1 rfl rfl) h1
  have k2 := h2
  obtain ⟨a2, rfl, _, _, w2⟩ := open_int Try.underlying3 (hval 2 3 v2 rfl rfl) h2
  have k3 := h3
  obtain ⟨a3, rfl, _, _, w3⟩ := open_string Try.underlying9 (hval 3 9 v3 rfl rfl) h3
  have k4 := h4
  obtain ⟨a4, rfl, _, _, w4⟩ := open_int Try.underlying22 (hval 4 22 v4 rfl rfl) h4
  clear hA0 hval0
  refine ((kinds_ro a0 a1 a4 a2 a3 (wf_u32 w0) (wf_u32 w1) (wf_u32 w4) w3).calls W trivial).mono fun e W' ⟨he, ext⟩ => ?_
  subst he
  exact ⟨_, rfl, _, _, _, [], _, [], hW', trodAll_mk1 (shut_bool Try.underlying4 _), (trodAll_cons_mk (GL.Ext.trod laidOutRecordKinds (by kernel_rfl) (of_decide_eq_true (by kernel_rfl)) k0 ext) (trodAll_cons_mk (GL.Ext.trod laidOutRecordKinds (by kernel_rfl) (of_decide_eq_true (by kernel_rfl)) k1 ext) (trodAll_cons_mk (GL.Ext.trod laidOutRecordKinds (by kernel_rfl) (of_decide_eq_true (by kernel_rfl)) k2 ext) (trodAll_cons_mk (GL.Ext.trod laidOutRecordKinds (by kernel_rfl) (of_decide_eq_true (by kernel_rfl)) k3 ext) (trodAll_cons_mk (GL.Ext.trod laidOutRecordKinds (by kernel_rfl) (of_decide_eq_true (by kernel_rfl)) k4 ext) trodAll_mk0))))), rfl, ext.keptBut _, fun h => by cases h⟩
theorem overRecordKinds : Rows.recordKindsRow.holds Try.pinned (OpenSpec.ofChange Rows.recordKindsSpec) :=
  OpenClaim.holds_of_wide 3 Try.f3 rfl rfl rfl rfl rfl rfl rfl ⟨rfl, rfl, rfl, rfl, rfl⟩ rfl rfl rfl rfl rfl (by kernel_rfl) Try.func3 (by kernel_rfl)
    (of_decide_eq_true (by kernel_rfl)) (by unfold Func.isWrapper; first | (rw [if_pos (by decide +kernel)]; kernel_rfl) | (rw [if_neg (by decide +kernel)]; exact ⟨rfl, rfl⟩))
    (fun os started H enc _ => liftedRecordKinds os started H enc)
theorem recordKinds_holds : Rows.RecordKindsSaid := overRecordKinds
end Go.Proofs.Ytkoakmaihcheaab
