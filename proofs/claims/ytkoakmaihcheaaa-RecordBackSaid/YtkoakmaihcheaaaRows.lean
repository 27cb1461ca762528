/-
  No cell of these rows narrows 'for every input' (looked for: loops, veiled, ifaces, maps, wideKeys, modest, calm, conditions, laid).
  DERIVED. THE GIVEN ROWS OF THIS SEAT. 6 by the template 'for every input the law returns true; each argument reads behind the call as it read before'; 0 by the template 'total and deterministic' (their statements: YtkoakmaihcheaaaTotals.lean).
  GIVEN WITH THE SEED: the statements are not yours to turn. If you find one false, say at which input.
  Laid BY PROGRAM, IN A SANDBOX (cutbox-rows.mjs): the forced cells as the released guide's own fill.sh prints them over the translation 55bff81c33261029… (all of the seat's roots in one cut). By AI agents, Wed Nov 11 2026. No macro, syntax, notation, axiom, sorry.
-/
import Derived.Test.YtkoakmaihcheaaaChecked
import GoSem.Claim
import GoSem.ClaimJoined
import GoSem.ClaimMapViews
import Derived.JoinedTies
import Derived.KernelRfl
namespace Go.Proofs.Ytkoakmaihcheaaa
/- THE CELL 'sum', in the pinned program and in every row, IS THE sha256 OF THE DUMP (.gsa) THAT YtkoakmaihcheaaaProg.lean LOADS. Nothing in Lean hashes anything: it is a label: what it is worth is what the hold of that sum in a sandbox is worth. -/
noncomputable def Try.pinned : Pinned := { name := "ytkoakmaihcheaaa", sum := "55bff81c33261029275587891b21eef2a99acaeb1d42771a11deea62910af8be", checked := Try.checked }
namespace Rows
def none {H : Type} : Left H := { results := [], args := [] }

/-- 'isobarlaw23.ScriptDecodes': WHATEVER THE INPUT: true; the input reads as it did. -/
def scriptDecodesSpec : ChangeSpec := { name := "scriptDecodes", fn := fun _ => fun
  | [d] => { results := [.lit (.bool true)], args := [d] }
  | _ => none }
def scriptDecodesRow : OpenClaim := { program := "ytkoakmaihcheaaa", sum := "55bff81c33261029275587891b21eef2a99acaeb1d42771a11deea62910af8be", func := "isobar/isobarlaw23.ScriptDecodes", spec := "scriptDecodes", apart := false }
def ScriptDecodesSaid : Prop := scriptDecodesRow.holds Try.pinned (OpenSpec.ofChange scriptDecodesSpec)

/-- ITS FALSE NEIGHBOUR: 'it returns false'. Refute it at one input. -/
def scriptDecodesWrong : ChangeSpec := { name := "scriptDecodes", fn := fun _ => fun
  | [d] => { results := [.lit (.bool false)], args := [d] }
  | _ => none }
def ScriptDecodesWrongFalsely : Prop := scriptDecodesRow.holds Try.pinned (OpenSpec.ofChange scriptDecodesWrong)

/-- 'isobarlaw23.ScriptSteps': WHATEVER THE INPUT: true; the input reads as it did. -/
def scriptStepsSpec : ChangeSpec := { name := "scriptSteps", fn := fun _ => fun
  | [d1, d2, d3] => { results := [.lit (.bool true)], args := [d1, d2, d3] }
  | _ => none }
def scriptStepsRow : OpenClaim := { program := "ytkoakmaihcheaaa", sum := "55bff81c33261029275587891b21eef2a99acaeb1d42771a11deea62910af8be", func := "isobar/isobarlaw23.ScriptSteps", spec := "scriptSteps", apart := false }
def ScriptStepsSaid : Prop := scriptStepsRow.holds Try.pinned (OpenSpec.ofChange scriptStepsSpec)

/-- ITS FALSE NEIGHBOUR: 'it returns false'. Refute it at one input. -/
def scriptStepsWrong : ChangeSpec := { name := "scriptSteps", fn := fun _ => fun
  | [d1, d2, d3] => { results := [.lit (.bool false)], args := [d1, d2, d3] }
  | _ => none }
def ScriptStepsWrongFalsely : Prop := scriptStepsRow.holds Try.pinned (OpenSpec.ofChange scriptStepsWrong)

/-- 'isobarlaw15.MemberStays': WHATEVER THE INPUT: true; the input reads as it did. -/
def memberStaysSpec : ChangeSpec := { name := "memberStays", fn := fun _ => fun
  | [d1, d2, d3, d4] => { results := [.lit (.bool true)], args := [d1, d2, d3, d4] }
  | _ => none }
def memberStaysRow : OpenClaim := { program := "ytkoakmaihcheaaa", sum := "55bff81c33261029275587891b21eef2a99acaeb1d42771a11deea62910af8be", func := "isobar/isobarlaw15.MemberStays", spec := "memberStays", apart := false }
def MemberStaysSaid : Prop := memberStaysRow.holds Try.pinned (OpenSpec.ofChange memberStaysSpec)

/-- ITS FALSE NEIGHBOUR: 'it returns false'. Refute it at one input. -/
def memberStaysWrong : ChangeSpec := { name := "memberStays", fn := fun _ => fun
  | [d1, d2, d3, d4] => { results := [.lit (.bool false)], args := [d1, d2, d3, d4] }
  | _ => none }
def MemberStaysWrongFalsely : Prop := memberStaysRow.holds Try.pinned (OpenSpec.ofChange memberStaysWrong)

/-- 'isobarlaw15.MemberTurns': WHATEVER THE INPUT: true; the input reads as it did. -/
def memberTurnsSpec : ChangeSpec := { name := "memberTurns", fn := fun _ => fun
  | [d1, d2, d3] => { results := [.lit (.bool true)], args := [d1, d2, d3] }
  | _ => none }
def memberTurnsRow : OpenClaim := { program := "ytkoakmaihcheaaa", sum := "55bff81c33261029275587891b21eef2a99acaeb1d42771a11deea62910af8be", func := "isobar/isobarlaw15.MemberTurns", spec := "memberTurns", apart := false }
def MemberTurnsSaid : Prop := memberTurnsRow.holds Try.pinned (OpenSpec.ofChange memberTurnsSpec)

/-- ITS FALSE NEIGHBOUR: 'it returns false'. Refute it at one input. -/
def memberTurnsWrong : ChangeSpec := { name := "memberTurns", fn := fun _ => fun
  | [d1, d2, d3] => { results := [.lit (.bool false)], args := [d1, d2, d3] }
  | _ => none }
def MemberTurnsWrongFalsely : Prop := memberTurnsRow.holds Try.pinned (OpenSpec.ofChange memberTurnsWrong)

/-- 'isobarlaw05.RecordUnlike': WHATEVER THE INPUT: true; the input reads as it did. -/
def recordUnlikeSpec : ChangeSpec := { name := "recordUnlike", fn := fun _ => fun
  | [d1, d2, d3, d4] => { results := [.lit (.bool true)], args := [d1, d2, d3, d4] }
  | _ => none }
def recordUnlikeRow : OpenClaim := { program := "ytkoakmaihcheaaa", sum := "55bff81c33261029275587891b21eef2a99acaeb1d42771a11deea62910af8be", func := "isobar/isobarlaw05.RecordUnlike", spec := "recordUnlike", apart := false }
def RecordUnlikeSaid : Prop := recordUnlikeRow.holds Try.pinned (OpenSpec.ofChange recordUnlikeSpec)

/-- ITS FALSE NEIGHBOUR: 'it returns false'. Refute it at one input. -/
def recordUnlikeWrong : ChangeSpec := { name := "recordUnlike", fn := fun _ => fun
  | [d1, d2, d3, d4] => { results := [.lit (.bool false)], args := [d1, d2, d3, d4] }
  | _ => none }
def RecordUnlikeWrongFalsely : Prop := recordUnlikeRow.holds Try.pinned (OpenSpec.ofChange recordUnlikeWrong)

/-- 'isobarlaw05.RecordBack': WHATEVER THE INPUT: true; the input reads as it did. -/
def recordBackSpec : ChangeSpec := { name := "recordBack", fn := fun _ => fun
  | [d1, d2, d3] => { results := [.lit (.bool true)], args := [d1, d2, d3] }
  | _ => none }
def recordBackRow : OpenClaim := { program := "ytkoakmaihcheaaa", sum := "55bff81c33261029275587891b21eef2a99acaeb1d42771a11deea62910af8be", func := "isobar/isobarlaw05.RecordBack", spec := "recordBack", apart := false }
def RecordBackSaid : Prop := recordBackRow.holds Try.pinned (OpenSpec.ofChange recordBackSpec)

/-- ITS FALSE NEIGHBOUR: 'it returns false'. Refute it at one input. -/
def recordBackWrong : ChangeSpec := { name := "recordBack", fn := fun _ => fun
  | [d1, d2, d3] => { results := [.lit (.bool false)], args := [d1, d2, d3] }
  | _ => none }
def RecordBackWrongFalsely : Prop := recordBackRow.holds Try.pinned (OpenSpec.ofChange recordBackWrong)

/- THE SECOND FORM. 'bulk': how many values and letters a reading holds, each counted each time it is reached (what is shared counts as often as it is met; a slice's spare places count too). A statement '..UptoSaid' is the law's where the arguments, and the package variables that the reading takes, are together of bulk at most 1048576: NARROWER than '..Said'. Prove '..Said' where nothing that the law and all that it calls make is longer than what came in: it says more and counts as full. Else prove '..UptoSaid'. A law counts once. -/
mutual
def uptoBulk {H : Type} : DataW H → Nat
  | .lit (.string bytes) => bytes.length + 1
  | .lit _ => 1
  | .nil => 1
  | .ptr d => uptoBulk d + 1
  | .slice elems spare => uptoBulkAll elems + uptoBulkAll spare + 1
  | .agg parts => uptoBulkAll parts + 1
  | .iface _ d => uptoBulk d + 1
  | .map entries => uptoBulkEntries entries + 1
  | .held _ => 1
def uptoBulkAll {H : Type} : List (DataW H) → Nat
  | [] => 0
  | d :: r => uptoBulk d + uptoBulkAll r
def uptoBulkEntries {H : Type} : List (Lit × DataW H) → Nat
  | [] => 0
  | x :: r => uptoBulkEntry x + uptoBulkEntries r
def uptoBulkEntry {H : Type} : Lit × DataW H → Nat
  | (.string bytes, d) => bytes.length + uptoBulk d + 1
  | (_, d) => uptoBulk d + 1
 end
def uptoSmall : (H : Type) → List (DataW H) → Bool := fun _ ds => decide (uptoBulkAll ds ≤ 1048576)
def OpenSpec.upto (s : _root_.Go.ChangeSpec) : _root_.Go.OpenSpec := { _root_.Go.OpenSpec.ofChange s with cond := some uptoSmall }

/-- 'isobarlaw23.ScriptDecodes', WHERE WHAT IT READS IS OF BULK AT MOST 1048576: true; the input reads as it did. -/
def scriptDecodesUptoRow : OpenClaim := { program := "ytkoakmaihcheaaa", sum := "55bff81c33261029275587891b21eef2a99acaeb1d42771a11deea62910af8be", func := "isobar/isobarlaw23.ScriptDecodes", spec := "scriptDecodes", apart := false, narrowed := true }
def ScriptDecodesUptoSaid : Prop := scriptDecodesUptoRow.holds Try.pinned (OpenSpec.upto scriptDecodesSpec)

/-- 'isobarlaw23.ScriptSteps', WHERE WHAT IT READS IS OF BULK AT MOST 1048576: true; the input reads as it did. -/
def scriptStepsUptoRow : OpenClaim := { program := "ytkoakmaihcheaaa", sum := "55bff81c33261029275587891b21eef2a99acaeb1d42771a11deea62910af8be", func := "isobar/isobarlaw23.ScriptSteps", spec := "scriptSteps", apart := false, narrowed := true }
def ScriptStepsUptoSaid : Prop := scriptStepsUptoRow.holds Try.pinned (OpenSpec.upto scriptStepsSpec)

/-- 'isobarlaw15.MemberStays', WHERE WHAT IT READS IS OF BULK AT MOST 1048576: true; the input reads as it did. -/
def memberStaysUptoRow : OpenClaim := { program := "ytkoakmaihcheaaa", sum := "55bff81c33261029275587891b21eef2a99acaeb1d42771a11deea62910af8be", func := "isobar/isobarlaw15.MemberStays", spec := "memberStays", apart := false, narrowed := true }
def MemberStaysUptoSaid : Prop := memberStaysUptoRow.holds Try.pinned (OpenSpec.upto memberStaysSpec)

/-- 'isobarlaw15.MemberTurns', WHERE WHAT IT READS IS OF BULK AT MOST 1048576: true; the input reads as it did. -/
def memberTurnsUptoRow : OpenClaim := { program := "ytkoakmaihcheaaa", sum := "55bff81c33261029275587891b21eef2a99acaeb1d42771a11deea62910af8be", func := "isobar/isobarlaw15.MemberTurns", spec := "memberTurns", apart := false, narrowed := true }
def MemberTurnsUptoSaid : Prop := memberTurnsUptoRow.holds Try.pinned (OpenSpec.upto memberTurnsSpec)

/-- 'isobarlaw05.RecordUnlike', WHERE WHAT IT READS IS OF BULK AT MOST 1048576: true; the input reads as it did. -/
def recordUnlikeUptoRow : OpenClaim := { program := "ytkoakmaihcheaaa", sum := "55bff81c33261029275587891b21eef2a99acaeb1d42771a11deea62910af8be", func := "isobar/isobarlaw05.RecordUnlike", spec := "recordUnlike", apart := false, narrowed := true }
def RecordUnlikeUptoSaid : Prop := recordUnlikeUptoRow.holds Try.pinned (OpenSpec.upto recordUnlikeSpec)

/-- 'isobarlaw05.RecordBack', WHERE WHAT IT READS IS OF BULK AT MOST 1048576: true; the input reads as it did. -/
def recordBackUptoRow : OpenClaim := { program := "ytkoakmaihcheaaa", sum := "55bff81c33261029275587891b21eef2a99acaeb1d42771a11deea62910af8be", func := "isobar/isobarlaw05.RecordBack", spec := "recordBack", apart := false, narrowed := true }
def RecordBackUptoSaid : Prop := recordBackUptoRow.holds Try.pinned (OpenSpec.upto recordBackSpec)

end Rows
end Go.Proofs.Ytkoakmaihcheaaa
