/- Contracts of functions of the given program, and plain laws on what they compute: parts of the proofs of laws. -/
import Derived.Test.YtkoakmaihcheaabDoorGLt
import Derived.Test.YtkoakmaihcheaabDoorM10
import Derived.Test.YtkoakmaihcheaabDoorGLm
namespace Go.Proofs.YtkoakmaihcheaabDoor
open Go Go.GL
theorem op3_of {x : List Value} (h : LfsOk [.int .i64, .int .i64, .int .i64] x) : ∃ o : Op3, x = encO o ∧ ((Lit.int .i64 o.1).wf = true ∧ (Lit.int .i64 o.2.1).wf = true ∧ (Lit.int .i64 o.2.2).wf = true) := by
  obtain ⟨n0, s, rfl, w0, h⟩ := h.int
  obtain ⟨n1, s, rfl, w1, h⟩ := h.int
  obtain ⟨n2, s, rfl, w2, h⟩ := h.int
  rw [h.nil]
  exact ⟨(n0, n1, n2), rfl, w0, w1, w2⟩
end Go.Proofs.YtkoakmaihcheaabDoor
