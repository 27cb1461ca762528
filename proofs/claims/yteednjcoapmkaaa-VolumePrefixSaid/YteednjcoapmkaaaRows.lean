/-
  No cell of these rows narrows 'for every input' (looked for: loops, veiled, ifaces, maps, wideKeys, modest, calm, conditions, laid).
  DERIVED. THE GIVEN ROWS OF THIS SEAT. 6 by the template 'for every input the law returns true; each argument reads behind the call as it read before'; 0 by the template 'total and deterministic' (their statements: YteednjcoapmkaaaTotals.lean).
  GIVEN WITH THE SEED: the statements are not yours to turn. If you find one false, say at which input.
  Laid BY PROGRAM, IN A SANDBOX (cutbox-rows.mjs): the forced cells as the released guide's own fill.sh prints them over the translation 8d15fca5b6ad0c8e… (all of the seat's roots in one cut). By AI agents, Wed Nov 11 2026. No macro, syntax, notation, axiom, sorry.
-/
import Derived.Test.YteednjcoapmkaaaChecked
import GoSem.Claim
import GoSem.ClaimJoined
import GoSem.ClaimMapViews
import Derived.JoinedTies
import Derived.KernelRfl
namespace Go.Proofs.Yteednjcoapmkaaa
/- THE CELL 'sum', in the pinned program and in every row, IS THE sha256 OF THE DUMP (.gsa) THAT YteednjcoapmkaaaProg.lean LOADS. Nothing in Lean hashes anything: it is a label: what it is worth is what the hold of that sum in a sandbox is worth. -/
noncomputable def Try.pinned : Pinned := { name := "yteednjcoapmkaaa", sum := "8d15fca5b6ad0c8e04503f050603e429b987510aab53987f7c1ebde9496071e1", checked := Try.checked }
namespace Rows
def none {H : Type} : Left H := { results := [], args := [] }

/-- 'isobarlaw06.JournalCounts': WHATEVER THE INPUT: true; the input reads as it did. -/
def journalCountsSpec : ChangeSpec := { name := "journalCounts", fn := fun _ => fun
  | [d1, d2] => { results := [.lit (.bool true)], args := [d1, d2] }
  | _ => none }
def journalCountsRow : OpenClaim := { program := "yteednjcoapmkaaa", sum := "8d15fca5b6ad0c8e04503f050603e429b987510aab53987f7c1ebde9496071e1", func := "isobar/isobarlaw06.JournalCounts", spec := "journalCounts", unfollowed := true, recurses := true, apart := false }
def JournalCountsSaid : Prop := journalCountsRow.holds Try.pinned (OpenSpec.ofChange journalCountsSpec)

/-- ITS FALSE NEIGHBOUR: 'it returns false'. Refute it at one input. -/
def journalCountsWrong : ChangeSpec := { name := "journalCounts", fn := fun _ => fun
  | [d1, d2] => { results := [.lit (.bool false)], args := [d1, d2] }
  | _ => none }
def JournalCountsWrongFalsely : Prop := journalCountsRow.holds Try.pinned (OpenSpec.ofChange journalCountsWrong)

/-- 'isobarlaw06.JournalGaps': WHATEVER THE INPUT: true; the input reads as it did. -/
def journalGapsSpec : ChangeSpec := { name := "journalGaps", fn := fun _ => fun
  | [d1, d2, d3, d4] => { results := [.lit (.bool true)], args := [d1, d2, d3, d4] }
  | _ => none }
def journalGapsRow : OpenClaim := { program := "yteednjcoapmkaaa", sum := "8d15fca5b6ad0c8e04503f050603e429b987510aab53987f7c1ebde9496071e1", func := "isobar/isobarlaw06.JournalGaps", spec := "journalGaps", unfollowed := true, recurses := true, apart := false }
def JournalGapsSaid : Prop := journalGapsRow.holds Try.pinned (OpenSpec.ofChange journalGapsSpec)

/-- ITS FALSE NEIGHBOUR: 'it returns false'. Refute it at one input. -/
def journalGapsWrong : ChangeSpec := { name := "journalGaps", fn := fun _ => fun
  | [d1, d2, d3, d4] => { results := [.lit (.bool false)], args := [d1, d2, d3, d4] }
  | _ => none }
def JournalGapsWrongFalsely : Prop := journalGapsRow.holds Try.pinned (OpenSpec.ofChange journalGapsWrong)

/-- 'isobarlaw06.JournalLost': WHATEVER THE INPUT: true; the input reads as it did. -/
def journalLostSpec : ChangeSpec := { name := "journalLost", fn := fun _ => fun
  | [d1, d2, d3, d4, d5, d6] => { results := [.lit (.bool true)], args := [d1, d2, d3, d4, d5, d6] }
  | _ => none }
def journalLostRow : OpenClaim := { program := "yteednjcoapmkaaa", sum := "8d15fca5b6ad0c8e04503f050603e429b987510aab53987f7c1ebde9496071e1", func := "isobar/isobarlaw06.JournalLost", spec := "journalLost", unfollowed := true, recurses := true, apart := false }
def JournalLostSaid : Prop := journalLostRow.holds Try.pinned (OpenSpec.ofChange journalLostSpec)

/-- ITS FALSE NEIGHBOUR: 'it returns false'. Refute it at one input. -/
def journalLostWrong : ChangeSpec := { name := "journalLost", fn := fun _ => fun
  | [d1, d2, d3, d4, d5, d6] => { results := [.lit (.bool false)], args := [d1, d2, d3, d4, d5, d6] }
  | _ => none }
def JournalLostWrongFalsely : Prop := journalLostRow.holds Try.pinned (OpenSpec.ofChange journalLostWrong)

/-- 'isobarlaw06.JournalAgain': WHATEVER THE INPUT: true; the input reads as it did. -/
def journalAgainSpec : ChangeSpec := { name := "journalAgain", fn := fun _ => fun
  | [d1, d2, d3, d4] => { results := [.lit (.bool true)], args := [d1, d2, d3, d4] }
  | _ => none }
def journalAgainRow : OpenClaim := { program := "yteednjcoapmkaaa", sum := "8d15fca5b6ad0c8e04503f050603e429b987510aab53987f7c1ebde9496071e1", func := "isobar/isobarlaw06.JournalAgain", spec := "journalAgain", unfollowed := true, recurses := true, apart := false }
def JournalAgainSaid : Prop := journalAgainRow.holds Try.pinned (OpenSpec.ofChange journalAgainSpec)

/-- ITS FALSE NEIGHBOUR: 'it returns false'. Refute it at one input. -/
def journalAgainWrong : ChangeSpec := { name := "journalAgain", fn := fun _ => fun
  | [d1, d2, d3, d4] => { results := [.lit (.bool false)], args := [d1, d2, d3, d4] }
  | _ => none }
def JournalAgainWrongFalsely : Prop := journalAgainRow.holds Try.pinned (OpenSpec.ofChange journalAgainWrong)

/-- 'isobarlaw11.VolumeMarks': WHATEVER THE INPUT: true; the input reads as it did. -/
def volumeMarksSpec : ChangeSpec := { name := "volumeMarks", fn := fun _ => fun
  | [d] => { results := [.lit (.bool true)], args := [d] }
  | _ => none }
def volumeMarksRow : OpenClaim := { program := "yteednjcoapmkaaa", sum := "8d15fca5b6ad0c8e04503f050603e429b987510aab53987f7c1ebde9496071e1", func := "isobar/isobarlaw11.VolumeMarks", spec := "volumeMarks", unfollowed := true, recurses := true, apart := false }
def VolumeMarksSaid : Prop := volumeMarksRow.holds Try.pinned (OpenSpec.ofChange volumeMarksSpec)

/-- ITS FALSE NEIGHBOUR: 'it returns false'. Refute it at one input. -/
def volumeMarksWrong : ChangeSpec := { name := "volumeMarks", fn := fun _ => fun
  | [d] => { results := [.lit (.bool false)], args := [d] }
  | _ => none }
def VolumeMarksWrongFalsely : Prop := volumeMarksRow.holds Try.pinned (OpenSpec.ofChange volumeMarksWrong)

/-- 'isobarlaw11.VolumePrefix': WHATEVER THE INPUT: true; the input reads as it did. -/
def volumePrefixSpec : ChangeSpec := { name := "volumePrefix", fn := fun _ => fun
  | [d1, d2] => { results := [.lit (.bool true)], args := [d1, d2] }
  | _ => none }
def volumePrefixRow : OpenClaim := { program := "yteednjcoapmkaaa", sum := "8d15fca5b6ad0c8e04503f050603e429b987510aab53987f7c1ebde9496071e1", func := "isobar/isobarlaw11.VolumePrefix", spec := "volumePrefix", unfollowed := true, recurses := true, apart := false }
def VolumePrefixSaid : Prop := volumePrefixRow.holds Try.pinned (OpenSpec.ofChange volumePrefixSpec)

/-- ITS FALSE NEIGHBOUR: 'it returns false'. Refute it at one input. -/
def volumePrefixWrong : ChangeSpec := { name := "volumePrefix", fn := fun _ => fun
  | [d1, d2] => { results := [.lit (.bool false)], args := [d1, d2] }
  | _ => none }
def VolumePrefixWrongFalsely : Prop := volumePrefixRow.holds Try.pinned (OpenSpec.ofChange volumePrefixWrong)

/- THE SECOND FORM. 'bulk': how many values and letters a reading holds, each counted each time it is reached (what is shared counts as often as it is met; a slice's spare places count too). A statement '..UptoSaid' is the law's where the arguments, and the package variables that the reading takes, are together of bulk at most 1048576: NARROWER than '..Said'. Prove '..Said' where nothing that the law and all that it calls make is longer than what came in: it says more and counts as full. Else prove '..UptoSaid'. A law counts once. -/
mutual
def uptoBulk {H : Type} : DataW H → Nat
  | .lit (.string bytes) => bytes.length + 1
  | .lit _ => 1
  | .nil => 1
  | .ptr d => uptoBulk d + 1
  | .slice elems spare => uptoBulkAll elems + uptoBulkAll spare + 1
  | .agg parts => uptoBulkAll parts + 1
  | .iface _ d => uptoBulk d + 1
  | .map entries => uptoBulkEntries entries + 1
  | .held _ => 1
def uptoBulkAll {H : Type} : List (DataW H) → Nat
  | [] => 0
  | d :: r => uptoBulk d + uptoBulkAll r
def uptoBulkEntries {H : Type} : List (Lit × DataW H) → Nat
  | [] => 0
  | x :: r => uptoBulkEntry x + uptoBulkEntries r
def uptoBulkEntry {H : Type} : Lit × DataW H → Nat
  | (.string bytes, d) => bytes.length + uptoBulk d + 1
  | (_, d) => uptoBulk d + 1
 end
def uptoSmall : (H : Type) → List (DataW H) → Bool := fun _ ds => decide (uptoBulkAll ds ≤ 1048576)
def OpenSpec.upto (s : _root_.Go.ChangeSpec) : _root_.Go.OpenSpec := { _root_.Go.OpenSpec.ofChange s with cond := some uptoSmall }

/-- 'isobarlaw06.JournalCounts', WHERE WHAT IT READS IS OF BULK AT MOST 1048576: true; the input reads as it did. -/
def journalCountsUptoRow : OpenClaim := { program := "yteednjcoapmkaaa", sum := "8d15fca5b6ad0c8e04503f050603e429b987510aab53987f7c1ebde9496071e1", func := "isobar/isobarlaw06.JournalCounts", spec := "journalCounts", unfollowed := true, recurses := true, apart := false, narrowed := true }
def JournalCountsUptoSaid : Prop := journalCountsUptoRow.holds Try.pinned (OpenSpec.upto journalCountsSpec)

/-- 'isobarlaw06.JournalGaps', WHERE WHAT IT READS IS OF BULK AT MOST 1048576: true; the input reads as it did. -/
def journalGapsUptoRow : OpenClaim := { program := "yteednjcoapmkaaa", sum := "8d15fca5b6ad0c8e04503f050603e429b987510aab53987f7c1ebde9496071e1", func := "isobar/isobarlaw06.JournalGaps", spec := "journalGaps", unfollowed := true, recurses := true, apart := false, narrowed := true }
def JournalGapsUptoSaid : Prop := journalGapsUptoRow.holds Try.pinned (OpenSpec.upto journalGapsSpec)

/-- 'isobarlaw06.JournalLost', WHERE WHAT IT READS IS OF BULK AT MOST 1048576: true; the input reads as it did. -/
def journalLostUptoRow : OpenClaim := { program := "yteednjcoapmkaaa", sum := "8d15fca5b6ad0c8e04503f050603e429b987510aab53987f7c1ebde9496071e1", func := "isobar/isobarlaw06.JournalLost", spec := "journalLost", unfollowed := true, recurses := true, apart := false, narrowed := true }
def JournalLostUptoSaid : Prop := journalLostUptoRow.holds Try.pinned (OpenSpec.upto journalLostSpec)

/-- 'isobarlaw06.JournalAgain', WHERE WHAT IT READS IS OF BULK AT MOST 1048576: true; the input reads as it did. -/
def journalAgainUptoRow : OpenClaim := { program := "yteednjcoapmkaaa", sum := "8d15fca5b6ad0c8e04503f050603e429b987510aab53987f7c1ebde9496071e1", func := "isobar/isobarlaw06.JournalAgain", spec := "journalAgain", unfollowed := true, recurses := true, apart := false, narrowed := true }
def JournalAgainUptoSaid : Prop := journalAgainUptoRow.holds Try.pinned (OpenSpec.upto journalAgainSpec)

/-- 'isobarlaw11.VolumeMarks', WHERE WHAT IT READS IS OF BULK AT MOST 1048576: true; the input reads as it did. -/
def volumeMarksUptoRow : OpenClaim := { program := "yteednjcoapmkaaa", sum := "8d15fca5b6ad0c8e04503f050603e429b987510aab53987f7c1ebde9496071e1", func := "isobar/isobarlaw11.VolumeMarks", spec := "volumeMarks", unfollowed := true, recurses := true, apart := false, narrowed := true }
def VolumeMarksUptoSaid : Prop := volumeMarksUptoRow.holds Try.pinned (OpenSpec.upto volumeMarksSpec)

/-- 'isobarlaw11.VolumePrefix', WHERE WHAT IT READS IS OF BULK AT MOST 1048576: true; the input reads as it did. -/
def volumePrefixUptoRow : OpenClaim := { program := "yteednjcoapmkaaa", sum := "8d15fca5b6ad0c8e04503f050603e429b987510aab53987f7c1ebde9496071e1", func := "isobar/isobarlaw11.VolumePrefix", spec := "volumePrefix", unfollowed := true, recurses := true, apart := false, narrowed := true }
def VolumePrefixUptoSaid : Prop := volumePrefixUptoRow.holds Try.pinned (OpenSpec.upto volumePrefixSpec)

end Rows
end Go.Proofs.Yteednjcoapmkaaa
