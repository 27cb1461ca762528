/-
  The law CoordOnce holds: whatever the input, the Go function returns true, and each argument reads as it did. Conditions: none beyond the statement's own.
-/
import Derived.Test.YtacgheafbkfciaaRows
import Derived.Test.YtacgheafbkfciaaZCO3
import Derived.Test.YtacgheafbkfciaaZCO13
namespace Go.Proofs.Ytacgheafbkfciaa
open Go Go.GL Go.ChangeShapes Go.WideShapes Go.ChangeAt Go.RowKit
open Go.ChangeMaps (open_string shut_string)
set_option linter.unusedVariables false

theorem ownCoordOnce : ownKnob Try.prog.godebug = none := by kernel_rfl
theorem laidOutCoordOnce : laidOutB Try.prog = true := by kernel_rfl
set_option maxRecDepth 100000 in
theorem liftedCoordOnce (os : Os) (started : os.Started) (H : Type) (enc : TypeId × Value → H) :
    ReturnsInHanded {} Try.checked os 9 .any (Rows.coordOnceSpec.pre6 enc Try.prog Try.f9 Rows.coordOnceRow.domain false) (Rows.coordOnceSpec.post enc Try.prog Try.f9 false true false false) := by
  refine returnsInHanded_of_change (C := Try.checked) ownCoordOnce started (by kernel_rfl) Try.func9
    (ChangeSpec.witness6 (enc := enc) (C := Try.checked) false ⟨#[], #[.slice none 0 0, .slice none 0 0], []⟩ 8 (by kernel_rfl) (by kernel_rfl) (by kernel_rfl) (by kernel_rfl)) ?_
  intro W base args ds gs before hval0 hW hcnd _
  have hval : ∀ (j : Nat) t v, Try.f9.params[j]? = some t → args[j]? = some v → Value.okWide Try.prog W .any base t v := hval0
  have hW' := hW
  obtain ⟨p, q, hA0, hV, rfl, hfz, hnd⟩ := hW
  have hA : DataW.TrodAll enc Try.prog W 0 (fun _ => true) true Try.f9.params.toList args.toList ds p := hA0
  rw [Try.params9] at hA hval
  obtain ⟨v0, vs0, d0, ds0, p0, q0, hargs, rfl, rfl, h0, r0⟩ := trodAll_cons hA
  obtain ⟨v1, vs1, d1, ds1, p1, q1, rfl, rfl, rfl, h1, r1⟩ := trodAll_cons r0
  obtain ⟨rfl, rfl, rfl⟩ := trodAll_nil r1
  obtain rfl : args = #[v0, v1] := by cases args; simp_all
  obtain ⟨rfl, rfl⟩ := trodVars_none hV
  have k0 := h0
  obtain ⟨a0, len0, cap0, rw0, rfl, hr0, hc0, hm0, ho0, R0⟩ := open_row (n := 4) (l := [.int .i64]) Try.underlying23 (by kernel_rfl) (by kernel_rfl) (hval 0 23 v0 rfl rfl) h0
  obtain ⟨l0, hl0, hn0, w0⟩ := rows_ints ho0
  rw [hl0] at R0
  rw [hr0] at hn0
  have k1 := h1
  obtain ⟨a1, len1, cap1, rw1, rfl, hr1, hc1, hm1, ho1, R1⟩ := open_row (n := 8) (l := [.int .i64, .int .i64, .int .i64, .int .i64, .int .i64, .bool, .bool, .int .u64]) Try.underlying67 (by kernel_rfl) (by kernel_rfl) (hval 1 67 v1 rfl rfl) h1
  obtain ⟨l1, hl1, hn1, w1⟩ := rows_enc (fun x hx => cop_of (ho1 x hx))
  rw [hl1] at R1
  rw [hr1] at hn1
  clear hA0 hval0
  refine ((conce_ro a0 len0 cap0 l0 a1 len1 cap1 l1 hn0.symm hn1.symm w1).calls W ⟨R0, R1⟩).mono fun e W' ⟨he, ext⟩ => ?_
  subst he
  exact ⟨_, rfl, _, _, _, [], _, [], hW', trodAll_mk1 (shut_bool Try.underlying4 _), (trodAll_cons_mk (GL.Ext.trod laidOutCoordOnce (by kernel_rfl) (of_decide_eq_true (by kernel_rfl)) k0 ext) (trodAll_cons_mk (GL.Ext.trod laidOutCoordOnce (by kernel_rfl) (of_decide_eq_true (by kernel_rfl)) k1 ext) trodAll_mk0)), rfl, ext.keptBut _, fun h => by cases h⟩
theorem overCoordOnce : Rows.coordOnceRow.holds Try.pinned (OpenSpec.ofChange Rows.coordOnceSpec) :=
  OpenClaim.holds_of_wide 9 Try.f9 rfl rfl rfl rfl rfl rfl rfl ⟨rfl, rfl, rfl, rfl, rfl⟩ rfl rfl rfl rfl rfl (by kernel_rfl) Try.func9 (by kernel_rfl)
    (of_decide_eq_true (by kernel_rfl)) (by unfold Func.isWrapper; first | (rw [if_pos (by decide +kernel)]; kernel_rfl) | (rw [if_neg (by decide +kernel)]; exact ⟨rfl, rfl⟩))
    (fun os started H enc _ => liftedCoordOnce os started H enc)
theorem coordOnce_holds : Rows.CoordOnceSaid := overCoordOnce
end Go.Proofs.Ytacgheafbkfciaa
