/-
  The law MarksForget holds: whatever the input, the Go function returns true, and each argument reads as it did. Conditions: none beyond the statement's own.
-/
import Derived.Test.YtacgheafbkfciaaRows
import Derived.Test.YtacgheafbkfciaaZMk5
import Derived.Test.YtacgheafbkfciaaZMk13
namespace Go.Proofs.Ytacgheafbkfciaa
open Go Go.GL Go.ChangeShapes Go.WideShapes Go.ChangeAt Go.RowKit
open Go.ChangeMaps (open_string shut_string)
set_option linter.unusedVariables false

theorem ownMarksForget : ownKnob Try.prog.godebug = none := by kernel_rfl
theorem laidOutMarksForget : laidOutB Try.prog = true := by kernel_rfl
set_option maxRecDepth 100000 in
theorem liftedMarksForget (os : Os) (started : os.Started) (H : Type) (enc : TypeId × Value → H) :
    ReturnsInHanded {} Try.checked os 6 .any (Rows.marksForgetSpec.pre6 enc Try.prog Try.f6 Rows.marksForgetRow.domain false) (Rows.marksForgetSpec.post enc Try.prog Try.f6 false true false false) := by
  refine returnsInHanded_of_change (C := Try.checked) ownMarksForget started (by kernel_rfl) Try.func6
    (ChangeSpec.witness6 (enc := enc) (C := Try.checked) false ⟨#[], #[.slice none 0 0, .int .i64 0, .int .i64 0], []⟩ 8 (by kernel_rfl) (by kernel_rfl) (by kernel_rfl) (by kernel_rfl)) ?_
  intro W base args ds gs before hval0 hW hcnd _
  have hval : ∀ (j : Nat) t v, Try.f6.params[j]? = some t → args[j]? = some v → Value.okWide Try.prog W .any base t v := hval0
  have hW' := hW
  obtain ⟨p, q, hA0, hV, rfl, hfz, hnd⟩ := hW
  have hA : DataW.TrodAll enc Try.prog W 0 (fun _ => true) true Try.f6.params.toList args.toList ds p := hA0
  rw [Try.params6] at hA hval
  obtain ⟨v0, vs0, d0, ds0, p0, q0, hargs, rfl, rfl, h0, r0⟩ := trodAll_cons hA
  obtain ⟨v1, vs1, d1, ds1, p1, q1, rfl, rfl, rfl, h1, r1⟩ := trodAll_cons r0
  obtain ⟨v2, vs2, d2, ds2, p2, q2, rfl, rfl, rfl, h2, r2⟩ := trodAll_cons r1
  obtain ⟨rfl, rfl, rfl⟩ := trodAll_nil r2
  obtain rfl : args = #[v0, v1, v2] := by cases args; simp_all
  obtain ⟨rfl, rfl⟩ := trodVars_none hV
  have k0 := h0
  obtain ⟨a0, len0, cap0, rw0, rfl, hr0, hc0, hm0, ho0, R0⟩ := open_row (n := 8) (l := [.int .i64, .int .i64, .int .i64]) Try.underlying22 (by kernel_rfl) (by kernel_rfl) (hval 0 22 v0 rfl rfl) h0
  obtain ⟨l0, hl0, hn0, w0⟩ := rows_enc (fun x hx => mop_of (ho0 x hx))
  rw [hl0] at R0
  rw [hr0] at hn0
  have k1 := h1
  obtain ⟨a1, rfl, _, _, w1⟩ := open_int Try.underlying3 (hval 1 3 v1 rfl rfl) h1
  have k2 := h2
  obtain ⟨a2, rfl, _, _, w2⟩ := open_int Try.underlying3 (hval 2 3 v2 rfl rfl) h2
  clear hA0 hval0
  refine ((mforgetlaw_ro a0 len0 cap0 l0 a1 a2 (wf_i64 w1) hn0.symm w0).calls W R0).mono fun e W' ⟨he, ext⟩ => ?_
  subst he
  exact ⟨_, rfl, _, _, _, [], _, [], hW', trodAll_mk1 (shut_bool Try.underlying4 _), (trodAll_cons_mk (GL.Ext.trod laidOutMarksForget (by kernel_rfl) (of_decide_eq_true (by kernel_rfl)) k0 ext) (trodAll_cons_mk (GL.Ext.trod laidOutMarksForget (by kernel_rfl) (of_decide_eq_true (by kernel_rfl)) k1 ext) (trodAll_cons_mk (GL.Ext.trod laidOutMarksForget (by kernel_rfl) (of_decide_eq_true (by kernel_rfl)) k2 ext) trodAll_mk0))), rfl, ext.keptBut _, fun h => by cases h⟩
theorem overMarksForget : Rows.marksForgetRow.holds Try.pinned (OpenSpec.ofChange Rows.marksForgetSpec) :=
  OpenClaim.holds_of_wide 6 Try.f6 rfl rfl rfl rfl rfl rfl rfl ⟨rfl, rfl, rfl, rfl, rfl⟩ rfl rfl rfl rfl rfl (by kernel_rfl) Try.func6 (by kernel_rfl)
    (of_decide_eq_true (by kernel_rfl)) (by unfold Func.isWrapper; first | (rw [if_pos (by decide +kernel)]; kernel_rfl) | (rw [if_neg (by decide +kernel)]; exact ⟨rfl, rfl⟩))
    (fun os started H enc _ => liftedMarksForget os started H enc)
theorem marksForget_holds : Rows.MarksForgetSaid := overMarksForget
end Go.Proofs.Ytacgheafbkfciaa
