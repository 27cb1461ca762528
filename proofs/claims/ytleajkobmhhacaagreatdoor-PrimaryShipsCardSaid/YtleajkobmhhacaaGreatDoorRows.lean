/-
  NARROWER THAN 'FOR EVERY INPUT', by the rows' own cells (each row's printed sentence says how): CoordPlays: laid · PrimaryLease: laid · PrimaryWaits: laid · PrimaryShips: laid · PrimaryKeeps: laid · PrimaryQuiet: laid · PrimaryAgain: laid · PrimaryNil: laid · PrimaryPlays: laid.
  DERIVED. THE GIVEN ROWS OF THIS SEAT. 9 by the template 'for every input the law returns true; each argument reads behind the call as it read before'; 0 by the template 'total and deterministic' (their statements: YtleajkobmhhacaaGreatDoorTotals.lean).
  GIVEN WITH THE SEED: the statements are not yours to turn. If you find one false, say at which input.
  Laid BY PROGRAM, IN A SANDBOX (cutbox-rows.mjs): the forced cells as the released guide's own fill.sh prints them over the translation bf78b6f93638b49b… (all of the seat's roots in one cut). By AI agents, Wed Nov 11 2026. No macro, syntax, notation, axiom, sorry.
-/
import Derived.Test.YtleajkobmhhacaaGreatDoorChecked
import GoSem.Claim
import GoSem.ClaimJoined
import GoSem.ClaimMapViews
import Derived.JoinedTies
import Derived.KernelRfl
namespace Go.Proofs.YtleajkobmhhacaaGreatDoor
/- THE CELL 'sum', in the pinned program and in every row, IS THE sha256 OF THE DUMP (.gsa) THAT YtleajkobmhhacaaGreatDoorProg.lean LOADS. Nothing in Lean hashes anything: it is a label: what it is worth is what the hold of that sum in a sandbox is worth. -/
noncomputable def Tryz.pinned : Pinned := { name := "ytleajkobmhhacaagreatdoor", sum := "bf78b6f93638b49b5918c337062c65cd730e1f04eaddbef433a994eb36df16b9", checked := Tryz.checked }
namespace Rows
def none {H : Type} : Left H := { results := [], args := [] }

/- WHAT THE LISTED PACKAGE-LEVEL VARIABLES READ AS WHEN THE CALL BEGINS. Each datum BY PROGRAM (the guide's laid-datum.mjs) off the statement by which the dump's own 'gosem.cut.vars' lays the variable. In a bare row this is a premise. The card (YtleajkobmhhacaaGreatDoorCards.lean) ties it to the program's text. -/
def laid_errors_errorType {H : Type} : DataW H := .iface "internal/reflectlite.rtype" (.agg [.ptr (.lit (.string [101, 114, 114, 111, 114]))])

/-- 'isobarlaw21.CoordPlays': WHATEVER THE INPUT: true; the input reads as it did. -/
def coordPlaysSpec : ChangeSpec := { name := "coordPlays", fn := fun _ => fun
  | [d1, d2, d3, d4] => { results := [.lit (.bool true)], args := [d1, d2, d3, d4] }
  | _ => none }
def coordPlaysRow : OpenClaim := { program := "ytleajkobmhhacaagreatdoor", sum := "bf78b6f93638b49b5918c337062c65cd730e1f04eaddbef433a994eb36df16b9", func := "isobar/isobarlaw21.CoordPlays", spec := "coordPlays", inPlace := ["internal/reflectlite.ValueOf", "(internal/reflectlite.Value).Type", "(internal/reflectlite.Value).IsNil", "internal/reflectlite.TypeOf", "(internal/reflectlite.Value).Elem", "(internal/reflectlite.Value).Set"], unfollowed := true, recurses := true, named := ["errors.errorType"], apart := false, laid := [("errors.errorType", laid_errors_errorType)] }
def CoordPlaysSaid : Prop := coordPlaysRow.holds Tryz.pinned (OpenSpec.ofChange coordPlaysSpec)

/-- ITS FALSE NEIGHBOUR: 'it returns false'. Refute it at one input. -/
def coordPlaysWrong : ChangeSpec := { name := "coordPlays", fn := fun _ => fun
  | [d1, d2, d3, d4] => { results := [.lit (.bool false)], args := [d1, d2, d3, d4] }
  | _ => none }
def CoordPlaysWrongFalsely : Prop := coordPlaysRow.holds Tryz.pinned (OpenSpec.ofChange coordPlaysWrong)

/-- 'isobarlaw20.PrimaryLease': WHATEVER THE INPUT: true; the input reads as it did. -/
def primaryLeaseSpec : ChangeSpec := { name := "primaryLease", fn := fun _ => fun
  | [d1, d2, d3, d4, d5] => { results := [.lit (.bool true)], args := [d1, d2, d3, d4, d5] }
  | _ => none }
def primaryLeaseRow : OpenClaim := { program := "ytleajkobmhhacaagreatdoor", sum := "bf78b6f93638b49b5918c337062c65cd730e1f04eaddbef433a994eb36df16b9", func := "isobar/isobarlaw20.PrimaryLease", spec := "primaryLease", inPlace := ["internal/reflectlite.ValueOf", "(internal/reflectlite.Value).Type", "(internal/reflectlite.Value).IsNil", "internal/reflectlite.TypeOf", "(internal/reflectlite.Value).Elem", "(internal/reflectlite.Value).Set"], unfollowed := true, recurses := true, named := ["errors.errorType"], apart := false, laid := [("errors.errorType", laid_errors_errorType)] }
def PrimaryLeaseSaid : Prop := primaryLeaseRow.holds Tryz.pinned (OpenSpec.ofChange primaryLeaseSpec)

/-- ITS FALSE NEIGHBOUR: 'it returns false'. Refute it at one input. -/
def primaryLeaseWrong : ChangeSpec := { name := "primaryLease", fn := fun _ => fun
  | [d1, d2, d3, d4, d5] => { results := [.lit (.bool false)], args := [d1, d2, d3, d4, d5] }
  | _ => none }
def PrimaryLeaseWrongFalsely : Prop := primaryLeaseRow.holds Tryz.pinned (OpenSpec.ofChange primaryLeaseWrong)

/-- 'isobarlaw20.PrimaryWaits': WHATEVER THE INPUT: true; the input reads as it did. -/
def primaryWaitsSpec : ChangeSpec := { name := "primaryWaits", fn := fun _ => fun
  | [d1, d2] => { results := [.lit (.bool true)], args := [d1, d2] }
  | _ => none }
def primaryWaitsRow : OpenClaim := { program := "ytleajkobmhhacaagreatdoor", sum := "bf78b6f93638b49b5918c337062c65cd730e1f04eaddbef433a994eb36df16b9", func := "isobar/isobarlaw20.PrimaryWaits", spec := "primaryWaits", inPlace := ["internal/reflectlite.ValueOf", "(internal/reflectlite.Value).Type", "(internal/reflectlite.Value).IsNil", "internal/reflectlite.TypeOf", "(internal/reflectlite.Value).Elem", "(internal/reflectlite.Value).Set"], unfollowed := true, recurses := true, named := ["errors.errorType"], apart := false, laid := [("errors.errorType", laid_errors_errorType)] }
def PrimaryWaitsSaid : Prop := primaryWaitsRow.holds Tryz.pinned (OpenSpec.ofChange primaryWaitsSpec)

/-- ITS FALSE NEIGHBOUR: 'it returns false'. Refute it at one input. -/
def primaryWaitsWrong : ChangeSpec := { name := "primaryWaits", fn := fun _ => fun
  | [d1, d2] => { results := [.lit (.bool false)], args := [d1, d2] }
  | _ => none }
def PrimaryWaitsWrongFalsely : Prop := primaryWaitsRow.holds Tryz.pinned (OpenSpec.ofChange primaryWaitsWrong)

/-- 'isobarlaw20.PrimaryShips': WHATEVER THE INPUT: true; the input reads as it did. -/
def primaryShipsSpec : ChangeSpec := { name := "primaryShips", fn := fun _ => fun
  | [d1, d2] => { results := [.lit (.bool true)], args := [d1, d2] }
  | _ => none }
def primaryShipsRow : OpenClaim := { program := "ytleajkobmhhacaagreatdoor", sum := "bf78b6f93638b49b5918c337062c65cd730e1f04eaddbef433a994eb36df16b9", func := "isobar/isobarlaw20.PrimaryShips", spec := "primaryShips", inPlace := ["internal/reflectlite.ValueOf", "(internal/reflectlite.Value).Type", "(internal/reflectlite.Value).IsNil", "internal/reflectlite.TypeOf", "(internal/reflectlite.Value).Elem", "(internal/reflectlite.Value).Set"], unfollowed := true, recurses := true, named := ["errors.errorType"], apart := false, laid := [("errors.errorType", laid_errors_errorType)] }
def PrimaryShipsSaid : Prop := primaryShipsRow.holds Tryz.pinned (OpenSpec.ofChange primaryShipsSpec)

/-- ITS FALSE NEIGHBOUR: 'it returns false'. Refute it at one input. -/
def primaryShipsWrong : ChangeSpec := { name := "primaryShips", fn := fun _ => fun
  | [d1, d2] => { results := [.lit (.bool false)], args := [d1, d2] }
  | _ => none }
def PrimaryShipsWrongFalsely : Prop := primaryShipsRow.holds Tryz.pinned (OpenSpec.ofChange primaryShipsWrong)

/-- 'isobarlaw20.PrimaryKeeps': WHATEVER THE INPUT: true; the input reads as it did. -/
def primaryKeepsSpec : ChangeSpec := { name := "primaryKeeps", fn := fun _ => fun
  | [d1, d2] => { results := [.lit (.bool true)], args := [d1, d2] }
  | _ => none }
def primaryKeepsRow : OpenClaim := { program := "ytleajkobmhhacaagreatdoor", sum := "bf78b6f93638b49b5918c337062c65cd730e1f04eaddbef433a994eb36df16b9", func := "isobar/isobarlaw20.PrimaryKeeps", spec := "primaryKeeps", inPlace := ["internal/reflectlite.ValueOf", "(internal/reflectlite.Value).Type", "(internal/reflectlite.Value).IsNil", "internal/reflectlite.TypeOf", "(internal/reflectlite.Value).Elem", "(internal/reflectlite.Value).Set"], unfollowed := true, recurses := true, named := ["errors.errorType"], apart := false, laid := [("errors.errorType", laid_errors_errorType)] }
def PrimaryKeepsSaid : Prop := primaryKeepsRow.holds Tryz.pinned (OpenSpec.ofChange primaryKeepsSpec)

/-- ITS FALSE NEIGHBOUR: 'it returns false'. Refute it at one input. -/
def primaryKeepsWrong : ChangeSpec := { name := "primaryKeeps", fn := fun _ => fun
  | [d1, d2] => { results := [.lit (.bool false)], args := [d1, d2] }
  | _ => none }
def PrimaryKeepsWrongFalsely : Prop := primaryKeepsRow.holds Tryz.pinned (OpenSpec.ofChange primaryKeepsWrong)

/-- 'isobarlaw20.PrimaryQuiet': WHATEVER THE INPUT: true; the input reads as it did. -/
def primaryQuietSpec : ChangeSpec := { name := "primaryQuiet", fn := fun _ => fun
  | [d1, d2] => { results := [.lit (.bool true)], args := [d1, d2] }
  | _ => none }
def primaryQuietRow : OpenClaim := { program := "ytleajkobmhhacaagreatdoor", sum := "bf78b6f93638b49b5918c337062c65cd730e1f04eaddbef433a994eb36df16b9", func := "isobar/isobarlaw20.PrimaryQuiet", spec := "primaryQuiet", inPlace := ["internal/reflectlite.ValueOf", "(internal/reflectlite.Value).Type", "(internal/reflectlite.Value).IsNil", "internal/reflectlite.TypeOf", "(internal/reflectlite.Value).Elem", "(internal/reflectlite.Value).Set"], unfollowed := true, recurses := true, named := ["errors.errorType"], apart := false, laid := [("errors.errorType", laid_errors_errorType)] }
def PrimaryQuietSaid : Prop := primaryQuietRow.holds Tryz.pinned (OpenSpec.ofChange primaryQuietSpec)

/-- ITS FALSE NEIGHBOUR: 'it returns false'. Refute it at one input. -/
def primaryQuietWrong : ChangeSpec := { name := "primaryQuiet", fn := fun _ => fun
  | [d1, d2] => { results := [.lit (.bool false)], args := [d1, d2] }
  | _ => none }
def PrimaryQuietWrongFalsely : Prop := primaryQuietRow.holds Tryz.pinned (OpenSpec.ofChange primaryQuietWrong)

/-- 'isobarlaw20.PrimaryAgain': WHATEVER THE INPUT: true; the input reads as it did. -/
def primaryAgainSpec : ChangeSpec := { name := "primaryAgain", fn := fun _ => fun
  | [d1, d2, d3] => { results := [.lit (.bool true)], args := [d1, d2, d3] }
  | _ => none }
def primaryAgainRow : OpenClaim := { program := "ytleajkobmhhacaagreatdoor", sum := "bf78b6f93638b49b5918c337062c65cd730e1f04eaddbef433a994eb36df16b9", func := "isobar/isobarlaw20.PrimaryAgain", spec := "primaryAgain", inPlace := ["internal/reflectlite.ValueOf", "(internal/reflectlite.Value).Type", "(internal/reflectlite.Value).IsNil", "internal/reflectlite.TypeOf", "(internal/reflectlite.Value).Elem", "(internal/reflectlite.Value).Set"], unfollowed := true, recurses := true, named := ["errors.errorType"], apart := false, laid := [("errors.errorType", laid_errors_errorType)] }
def PrimaryAgainSaid : Prop := primaryAgainRow.holds Tryz.pinned (OpenSpec.ofChange primaryAgainSpec)

/-- ITS FALSE NEIGHBOUR: 'it returns false'. Refute it at one input. -/
def primaryAgainWrong : ChangeSpec := { name := "primaryAgain", fn := fun _ => fun
  | [d1, d2, d3] => { results := [.lit (.bool false)], args := [d1, d2, d3] }
  | _ => none }
def PrimaryAgainWrongFalsely : Prop := primaryAgainRow.holds Tryz.pinned (OpenSpec.ofChange primaryAgainWrong)

/-- 'isobarlaw20.PrimaryNil': WHATEVER THE INPUT: true; the input reads as it did. -/
def primaryNilSpec : ChangeSpec := { name := "primaryNil", fn := fun _ => fun
  | [d] => { results := [.lit (.bool true)], args := [d] }
  | _ => none }
def primaryNilRow : OpenClaim := { program := "ytleajkobmhhacaagreatdoor", sum := "bf78b6f93638b49b5918c337062c65cd730e1f04eaddbef433a994eb36df16b9", func := "isobar/isobarlaw20.PrimaryNil", spec := "primaryNil", inPlace := ["internal/reflectlite.ValueOf", "(internal/reflectlite.Value).Type", "(internal/reflectlite.Value).IsNil", "internal/reflectlite.TypeOf", "(internal/reflectlite.Value).Elem", "(internal/reflectlite.Value).Set"], unfollowed := true, recurses := true, named := ["errors.errorType"], apart := false, laid := [("errors.errorType", laid_errors_errorType)] }
def PrimaryNilSaid : Prop := primaryNilRow.holds Tryz.pinned (OpenSpec.ofChange primaryNilSpec)

/-- ITS FALSE NEIGHBOUR: 'it returns false'. Refute it at one input. -/
def primaryNilWrong : ChangeSpec := { name := "primaryNil", fn := fun _ => fun
  | [d] => { results := [.lit (.bool false)], args := [d] }
  | _ => none }
def PrimaryNilWrongFalsely : Prop := primaryNilRow.holds Tryz.pinned (OpenSpec.ofChange primaryNilWrong)

/-- 'isobarlaw20.PrimaryPlays': WHATEVER THE INPUT: true; the input reads as it did. -/
def primaryPlaysSpec : ChangeSpec := { name := "primaryPlays", fn := fun _ => fun
  | [d1, d2] => { results := [.lit (.bool true)], args := [d1, d2] }
  | _ => none }
def primaryPlaysRow : OpenClaim := { program := "ytleajkobmhhacaagreatdoor", sum := "bf78b6f93638b49b5918c337062c65cd730e1f04eaddbef433a994eb36df16b9", func := "isobar/isobarlaw20.PrimaryPlays", spec := "primaryPlays", inPlace := ["internal/reflectlite.ValueOf", "(internal/reflectlite.Value).Type", "(internal/reflectlite.Value).IsNil", "internal/reflectlite.TypeOf", "(internal/reflectlite.Value).Elem", "(internal/reflectlite.Value).Set"], unfollowed := true, recurses := true, named := ["errors.errorType"], apart := false, laid := [("errors.errorType", laid_errors_errorType)] }
def PrimaryPlaysSaid : Prop := primaryPlaysRow.holds Tryz.pinned (OpenSpec.ofChange primaryPlaysSpec)

/-- ITS FALSE NEIGHBOUR: 'it returns false'. Refute it at one input. -/
def primaryPlaysWrong : ChangeSpec := { name := "primaryPlays", fn := fun _ => fun
  | [d1, d2] => { results := [.lit (.bool false)], args := [d1, d2] }
  | _ => none }
def PrimaryPlaysWrongFalsely : Prop := primaryPlaysRow.holds Tryz.pinned (OpenSpec.ofChange primaryPlaysWrong)

/- THE SECOND FORM. 'bulk': how many values and letters a reading holds, each counted each time it is reached (what is shared counts as often as it is met; a slice's spare places count too). A statement '..UptoSaid' is the law's where the arguments, and the package variables that the reading takes, are together of bulk at most 1048576: NARROWER than '..Said'. Prove '..Said' where nothing that the law and all that it calls make is longer than what came in: it says more and counts as full. Else prove '..UptoSaid'. A law counts once. -/
mutual
def uptoBulk {H : Type} : DataW H → Nat
  | .lit (.string bytes) => bytes.length + 1
  | .lit _ => 1
  | .nil => 1
  | .ptr d => uptoBulk d + 1
  | .slice elems spare => uptoBulkAll elems + uptoBulkAll spare + 1
  | .agg parts => uptoBulkAll parts + 1
  | .iface _ d => uptoBulk d + 1
  | .map entries => uptoBulkEntries entries + 1
  | .held _ => 1
def uptoBulkAll {H : Type} : List (DataW H) → Nat
  | [] => 0
  | d :: r => uptoBulk d + uptoBulkAll r
def uptoBulkEntries {H : Type} : List (Lit × DataW H) → Nat
  | [] => 0
  | x :: r => uptoBulkEntry x + uptoBulkEntries r
def uptoBulkEntry {H : Type} : Lit × DataW H → Nat
  | (.string bytes, d) => bytes.length + uptoBulk d + 1
  | (_, d) => uptoBulk d + 1
 end
def uptoSmall : (H : Type) → List (DataW H) → Bool := fun _ ds => decide (uptoBulkAll ds ≤ 1048576)
def OpenSpec.upto (s : _root_.Go.ChangeSpec) : _root_.Go.OpenSpec := { _root_.Go.OpenSpec.ofChange s with cond := some uptoSmall }

/-- 'isobarlaw21.CoordPlays', WHERE WHAT IT READS IS OF BULK AT MOST 1048576: true; the input reads as it did. -/
def coordPlaysUptoRow : OpenClaim := { program := "ytleajkobmhhacaagreatdoor", sum := "bf78b6f93638b49b5918c337062c65cd730e1f04eaddbef433a994eb36df16b9", func := "isobar/isobarlaw21.CoordPlays", spec := "coordPlays", inPlace := ["internal/reflectlite.ValueOf", "(internal/reflectlite.Value).Type", "(internal/reflectlite.Value).IsNil", "internal/reflectlite.TypeOf", "(internal/reflectlite.Value).Elem", "(internal/reflectlite.Value).Set"], unfollowed := true, recurses := true, named := ["errors.errorType"], apart := false, laid := [("errors.errorType", laid_errors_errorType)], narrowed := true }
def CoordPlaysUptoSaid : Prop := coordPlaysUptoRow.holds Tryz.pinned (OpenSpec.upto coordPlaysSpec)

/-- 'isobarlaw20.PrimaryLease', WHERE WHAT IT READS IS OF BULK AT MOST 1048576: true; the input reads as it did. -/
def primaryLeaseUptoRow : OpenClaim := { program := "ytleajkobmhhacaagreatdoor", sum := "bf78b6f93638b49b5918c337062c65cd730e1f04eaddbef433a994eb36df16b9", func := "isobar/isobarlaw20.PrimaryLease", spec := "primaryLease", inPlace := ["internal/reflectlite.ValueOf", "(internal/reflectlite.Value).Type", "(internal/reflectlite.Value).IsNil", "internal/reflectlite.TypeOf", "(internal/reflectlite.Value).Elem", "(internal/reflectlite.Value).Set"], unfollowed := true, recurses := true, named := ["errors.errorType"], apart := false, laid := [("errors.errorType", laid_errors_errorType)], narrowed := true }
def PrimaryLeaseUptoSaid : Prop := primaryLeaseUptoRow.holds Tryz.pinned (OpenSpec.upto primaryLeaseSpec)

/-- 'isobarlaw20.PrimaryWaits', WHERE WHAT IT READS IS OF BULK AT MOST 1048576: true; the input reads as it did. -/
def primaryWaitsUptoRow : OpenClaim := { program := "ytleajkobmhhacaagreatdoor", sum := "bf78b6f93638b49b5918c337062c65cd730e1f04eaddbef433a994eb36df16b9", func := "isobar/isobarlaw20.PrimaryWaits", spec := "primaryWaits", inPlace := ["internal/reflectlite.ValueOf", "(internal/reflectlite.Value).Type", "(internal/reflectlite.Value).IsNil", "internal/reflectlite.TypeOf", "(internal/reflectlite.Value).Elem", "(internal/reflectlite.Value).Set"], unfollowed := true, recurses := true, named := ["errors.errorType"], apart := false, laid := [("errors.errorType", laid_errors_errorType)], narrowed := true }
def PrimaryWaitsUptoSaid : Prop := primaryWaitsUptoRow.holds Tryz.pinned (OpenSpec.upto primaryWaitsSpec)

/-- 'isobarlaw20.PrimaryShips', WHERE WHAT IT READS IS OF BULK AT MOST 1048576: true; the input reads as it did. -/
def primaryShipsUptoRow : OpenClaim := { program := "ytleajkobmhhacaagreatdoor", sum := "bf78b6f93638b49b5918c337062c65cd730e1f04eaddbef433a994eb36df16b9", func := "isobar/isobarlaw20.PrimaryShips", spec := "primaryShips", inPlace := ["internal/reflectlite.ValueOf", "(internal/reflectlite.Value).Type", "(internal/reflectlite.Value).IsNil", "internal/reflectlite.TypeOf", "(internal/reflectlite.Value).Elem", "(internal/reflectlite.Value).Set"], unfollowed := true, recurses := true, named := ["errors.errorType"], apart := false, laid := [("errors.errorType", laid_errors_errorType)], narrowed := true }
def PrimaryShipsUptoSaid : Prop := primaryShipsUptoRow.holds Tryz.pinned (OpenSpec.upto primaryShipsSpec)

/-- 'isobarlaw20.PrimaryKeeps', WHERE WHAT IT READS IS OF BULK AT MOST 1048576: true; the input reads as it did. -/
def primaryKeepsUptoRow : OpenClaim := { program := "ytleajkobmhhacaagreatdoor", sum := "bf78b6f93638b49b5918c337062c65cd730e1f04eaddbef433a994eb36df16b9", func := "isobar/isobarlaw20.PrimaryKeeps", spec := "primaryKeeps", inPlace := ["internal/reflectlite.ValueOf", "(internal/reflectlite.Value).Type", "(internal/reflectlite.Value).IsNil", "internal/reflectlite.TypeOf", "(internal/reflectlite.Value).Elem", "(internal/reflectlite.Value).Set"], unfollowed := true, recurses := true, named := ["errors.errorType"], apart := false, laid := [("errors.errorType", laid_errors_errorType)], narrowed := true }
def PrimaryKeepsUptoSaid : Prop := primaryKeepsUptoRow.holds Tryz.pinned (OpenSpec.upto primaryKeepsSpec)

/-- 'isobarlaw20.PrimaryQuiet', WHERE WHAT IT READS IS OF BULK AT MOST 1048576: true; the input reads as it did. -/
def primaryQuietUptoRow : OpenClaim := { program := "ytleajkobmhhacaagreatdoor", sum := "bf78b6f93638b49b5918c337062c65cd730e1f04eaddbef433a994eb36df16b9", func := "isobar/isobarlaw20.PrimaryQuiet", spec := "primaryQuiet", inPlace := ["internal/reflectlite.ValueOf", "(internal/reflectlite.Value).Type", "(internal/reflectlite.Value).IsNil", "internal/reflectlite.TypeOf", "(internal/reflectlite.Value).Elem", "(internal/reflectlite.Value).Set"], unfollowed := true, recurses := true, named := ["errors.errorType"], apart := false, laid := [("errors.errorType", laid_errors_errorType)], narrowed := true }
def PrimaryQuietUptoSaid : Prop := primaryQuietUptoRow.holds Tryz.pinned (OpenSpec.upto primaryQuietSpec)

/-- 'isobarlaw20.PrimaryAgain', WHERE WHAT IT READS IS OF BULK AT MOST 1048576: true; the input reads as it did. -/
def primaryAgainUptoRow : OpenClaim := { program := "ytleajkobmhhacaagreatdoor", sum := "bf78b6f93638b49b5918c337062c65cd730e1f04eaddbef433a994eb36df16b9", func := "isobar/isobarlaw20.PrimaryAgain", spec := "primaryAgain", inPlace := ["internal/reflectlite.ValueOf", "(internal/reflectlite.Value).Type", "(internal/reflectlite.Value).IsNil", "internal/reflectlite.TypeOf", "(internal/reflectlite.Value).Elem", "(internal/reflectlite.Value).Set"], unfollowed := true, recurses := true, named := ["errors.errorType"], apart := false, laid := [("errors.errorType", laid_errors_errorType)], narrowed := true }
def PrimaryAgainUptoSaid : Prop := primaryAgainUptoRow.holds Tryz.pinned (OpenSpec.upto primaryAgainSpec)

/-- 'isobarlaw20.PrimaryNil', WHERE WHAT IT READS IS OF BULK AT MOST 1048576: true; the input reads as it did. -/
def primaryNilUptoRow : OpenClaim := { program := "ytleajkobmhhacaagreatdoor", sum := "bf78b6f93638b49b5918c337062c65cd730e1f04eaddbef433a994eb36df16b9", func := "isobar/isobarlaw20.PrimaryNil", spec := "primaryNil", inPlace := ["internal/reflectlite.ValueOf", "(internal/reflectlite.Value).Type", "(internal/reflectlite.Value).IsNil", "internal/reflectlite.TypeOf", "(internal/reflectlite.Value).Elem", "(internal/reflectlite.Value).Set"], unfollowed := true, recurses := true, named := ["errors.errorType"], apart := false, laid := [("errors.errorType", laid_errors_errorType)], narrowed := true }
def PrimaryNilUptoSaid : Prop := primaryNilUptoRow.holds Tryz.pinned (OpenSpec.upto primaryNilSpec)

/-- 'isobarlaw20.PrimaryPlays', WHERE WHAT IT READS IS OF BULK AT MOST 1048576: true; the input reads as it did. -/
def primaryPlaysUptoRow : OpenClaim := { program := "ytleajkobmhhacaagreatdoor", sum := "bf78b6f93638b49b5918c337062c65cd730e1f04eaddbef433a994eb36df16b9", func := "isobar/isobarlaw20.PrimaryPlays", spec := "primaryPlays", inPlace := ["internal/reflectlite.ValueOf", "(internal/reflectlite.Value).Type", "(internal/reflectlite.Value).IsNil", "internal/reflectlite.TypeOf", "(internal/reflectlite.Value).Elem", "(internal/reflectlite.Value).Set"], unfollowed := true, recurses := true, named := ["errors.errorType"], apart := false, laid := [("errors.errorType", laid_errors_errorType)], narrowed := true }
def PrimaryPlaysUptoSaid : Prop := primaryPlaysUptoRow.holds Tryz.pinned (OpenSpec.upto primaryPlaysSpec)

end Rows
end Go.Proofs.YtleajkobmhhacaaGreatDoor
