/-
  The law RecordBack holds: whatever the input, the Go function returns true, and each argument reads as it did. Conditions: none beyond the statement's own.
-/
import Derived.Test.YtkoakmaihcheaaaRows
import Derived.Test.YtkoakmaihcheaaaGLm
import Derived.Test.YtkoakmaihcheaaaR15
namespace Go.Proofs.Ytkoakmaihcheaaa
open Go Go.GL Go.ChangeShapes Go.WideShapes Go.ChangeAt Go.RowKit
open Go.ChangeMaps (open_string shut_string)
set_option linter.unusedVariables false

theorem ownRecordBack : ownKnob Try.prog.godebug = none := by kernel_rfl
theorem laidOutRecordBack : laidOutB Try.prog = true := by kernel_rfl
set_option maxRecDepth 100000 in
theorem liftedRecordBack (os : Os) (started : os.Started) (H : Type) (enc : TypeId × Value → H) :
    ReturnsInHanded {} Try.checked os 8 .any (Rows.recordBackSpec.pre6 enc Try.prog Try.f8 Rows.recordBackRow.domain false) (Rows.recordBackSpec.post enc Try.prog Try.f8 false true false false) := by
  refine returnsInHanded_of_change (C := Try.checked) ownRecordBack started (by kernel_rfl) Try.func8
    (ChangeSpec.witness6 (enc := enc) (C := Try.checked) false ⟨#[], #[.int .i64 0, .agg #[.int .i64 0, .int .i64 0, .int .i64 0, .string ⟨#[]⟩, .int .i64 0], .string ByteArray.empty], []⟩ 8 (by kernel_rfl) (by kernel_rfl) (by kernel_rfl) (by kernel_rfl)) ?_
  intro W base args ds gs before hval0 hW hcnd _
  have hval : ∀ (j : Nat) t v, Try.f8.params[j]? = some t → args[j]? = some v → Value.okWide Try.prog W .any base t v := hval0
  have hW' := hW
  obtain ⟨p, q, hA0, hV, rfl, hfz, hnd⟩ := hW
  have hA : DataW.TrodAll enc Try.prog W 0 (fun _ => true) true Try.f8.params.toList args.toList ds p := hA0
  rw [Try.params8] at hA hval
  obtain ⟨v0, vs0, d0, ds0, p0, q0, hargs, rfl, rfl, h0, r0⟩ := trodAll_cons hA
  obtain ⟨v1, vs1, d1, ds1, p1, q1, rfl, rfl, rfl, h1, r1⟩ := trodAll_cons r0
  obtain ⟨v2, vs2, d2, ds2, p2, q2, rfl, rfl, rfl, h2, r2⟩ := trodAll_cons r1
  obtain ⟨rfl, rfl, rfl⟩ := trodAll_nil r2
  obtain rfl : args = #[v0, v1, v2] := by cases args; simp_all
  obtain ⟨rfl, rfl⟩ := trodVars_none hV
  have k0 := h0
  obtain ⟨a0, rfl, _, _, w0⟩ := open_int Try.underlying3 (hval 0 3 v0 rfl rfl) h0
  have k1 := h1
  obtain ⟨c1, rfl, lo1⟩ := open_val (n := 8) (l := [.int .i64, .int .i64, .int .i64, .str, .int .i64]) Try.underlying53 (by kernel_rfl) (hval 1 53 v1 rfl rfl) h1
  obtain ⟨o1, rfl, w1⟩ := rec_of lo1
  have k2 := h2
  obtain ⟨a2, rfl, _, _, w2⟩ := open_string Try.underlying9 (hval 2 9 v2 rfl rfl) h2
  clear hA0 hval0
  refine ((back_ro a0 o1 a2 w1.1).calls W trivial).mono fun e W' ⟨he, ext⟩ => ?_
  subst he
  exact ⟨_, rfl, _, _, _, [], _, [], hW', trodAll_mk1 (shut_bool Try.underlying4 _), (trodAll_cons_mk (GL.Ext.trod laidOutRecordBack (by kernel_rfl) (of_decide_eq_true (by kernel_rfl)) k0 ext) (trodAll_cons_mk (GL.Ext.trod laidOutRecordBack (by kernel_rfl) (of_decide_eq_true (by kernel_rfl)) k1 ext) (trodAll_cons_mk (GL.Ext.trod laidOutRecordBack (by kernel_rfl) (of_decide_eq_true (by kernel_rfl)) k2 ext) trodAll_mk0))), rfl, ext.keptBut _, fun h => by cases h⟩
theorem overRecordBack : Rows.recordBackRow.holds Try.pinned (OpenSpec.ofChange Rows.recordBackSpec) :=
  OpenClaim.holds_of_wide 8 Try.f8 rfl rfl rfl rfl rfl rfl rfl ⟨rfl, rfl, rfl, rfl, rfl⟩ rfl rfl rfl rfl rfl (by kernel_rfl) Try.func8 (by kernel_rfl)
    (of_decide_eq_true (by kernel_rfl)) (by unfold Func.isWrapper; first | (rw [if_pos (by decide +kernel)]; kernel_rfl) | (rw [if_neg (by decide +kernel)]; exact ⟨rfl, rfl⟩))
    (fun os started H enc _ => liftedRecordBack os started H enc)
theorem recordBack_holds : Rows.RecordBackSaid := overRecordBack
end Go.Proofs.Ytkoakmaihcheaaa
