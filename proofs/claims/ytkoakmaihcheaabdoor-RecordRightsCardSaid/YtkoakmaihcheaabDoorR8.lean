/- Contracts of functions of the given program, and plain laws on what they compute: parts of the proofs of laws. -/
import Derived.Test.YtkoakmaihcheaabDoorGLt
import Derived.Test.YtkoakmaihcheaabDoorR4
import Derived.Test.YtkoakmaihcheaabDoorGLm
namespace Go.Proofs.YtkoakmaihcheaabDoor
open Go Go.GL
theorem rec_of {x : List Value} (h : LfsOk [.int .i64, .int .i64, .int .i64, .str, .int .i64] x) : ∃ r : Rec, x = encR r ∧ (r.2.2.2.1.size ≤ maxLen ∧ (Lit.int .i64 r.1).wf = true ∧ (Lit.int .i64 r.2.1).wf = true ∧ (Lit.int .i64 r.2.2.1).wf = true ∧ (Lit.int .i64 r.2.2.2.2).wf = true) := by
  obtain ⟨n0, s, rfl, w0, h⟩ := h.int
  obtain ⟨n1, s, rfl, w1, h⟩ := h.int
  obtain ⟨n2, s, rfl, w2, h⟩ := h.int
  obtain ⟨n3, s, rfl, w3, h⟩ := h.str
  obtain ⟨n4, s, rfl, w4, h⟩ := h.int
  rw [h.nil]
  exact ⟨(n0, n1, n2, n3, n4), rfl, w3, w0, w1, w2, w4⟩
end Go.Proofs.YtkoakmaihcheaabDoor
