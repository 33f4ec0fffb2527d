/-
  NARROWER THAN 'FOR EVERY INPUT', by the rows' own cells (each row's printed sentence says how): CheckMore: laid · CheckFees: laid · CheckKeeps: laid · CheckLater: laid.
  DERIVED. THE GIVEN ROWS OF THIS SEAT. 4 by the template 'for every input the law returns true; each argument reads behind the call as it read before'; 0 by the template 'total and deterministic' (their statements: YtelindgnkpfkiaaGreatDoorTotals.lean).
  GIVEN WITH THE SEED: the statements are not yours to turn. If you find one false, say at which input.
  Laid BY PROGRAM, IN A SANDBOX (cutbox-rows.mjs): the forced cells as the released guide's own fill.sh prints them over the translation 258c8abc9d7ff04e… (all of the seat's roots in one cut). By AI agents, Wed Nov 11 2026. No macro, syntax, notation, axiom, sorry.
-/
import Derived.Test.YtelindgnkpfkiaaGreatDoorChecked
import GoSem.Claim
import GoSem.ClaimJoined
import GoSem.ClaimMapViews
import Derived.JoinedTies
import Derived.KernelRfl
namespace Go.Proofs.YtelindgnkpfkiaaGreatDoor
/- THE CELL 'sum', in the pinned program and in every row, IS THE sha256 OF THE DUMP (.gsa) THAT YtelindgnkpfkiaaGreatDoorProg.lean LOADS. Nothing in Lean hashes anything: it is a label: what it is worth is what the hold of that sum in a sandbox is worth. -/
noncomputable def Tryz.pinned : Pinned := { name := "ytelindgnkpfkiaagreatdoor", sum := "258c8abc9d7ff04ea8bb179251204245e76fbd4d928ec856685bd35770004388", checked := Tryz.checked }
namespace Rows
def none {H : Type} : Left H := { results := [], args := [] }

/- WHAT THE LISTED PACKAGE-LEVEL VARIABLES READ AS WHEN THE CALL BEGINS. Each datum BY PROGRAM (the guide's laid-datum.mjs) off the statement by which the dump's own 'gosem.cut.vars' lays the variable. In a bare row this is a premise. The card (YtelindgnkpfkiaaGreatDoorCards.lean) ties it to the program's text. -/
def laid_errors_errorType {H : Type} : DataW H := .iface "internal/reflectlite.rtype" (.agg [.ptr (.lit (.string [101, 114, 114, 111, 114]))])

/-- 'kedgelaw11.CheckMore': WHATEVER THE INPUT: true; the input reads as it did. -/
def checkMoreSpec : ChangeSpec := { name := "checkMore", fn := fun _ => fun
  | [d1, d2, d3] => { results := [.lit (.bool true)], args := [d1, d2, d3] }
  | _ => none }
def checkMoreRow : OpenClaim := { program := "ytelindgnkpfkiaagreatdoor", sum := "258c8abc9d7ff04ea8bb179251204245e76fbd4d928ec856685bd35770004388", func := "kedge/kedgelaw11.CheckMore", spec := "checkMore", inPlace := ["internal/abi.NoEscape", "internal/bytealg.MakeNoZero", "internal/reflectlite.TypeOf", "internal/reflectlite.ValueOf", "(internal/reflectlite.Value).Type", "(internal/reflectlite.Value).IsNil", "(internal/reflectlite.Value).Elem", "(internal/reflectlite.Value).Set"], unfollowed := true, recurses := true, named := ["errors.errorType"], plainKeys := false, apart := false, laid := [("errors.errorType", laid_errors_errorType)] }
def CheckMoreSaid : Prop := checkMoreRow.holds Tryz.pinned (OpenSpec.ofChange checkMoreSpec)

/-- ITS FALSE NEIGHBOUR: 'it returns false'. Refute it at one input. -/
def checkMoreWrong : ChangeSpec := { name := "checkMore", fn := fun _ => fun
  | [d1, d2, d3] => { results := [.lit (.bool false)], args := [d1, d2, d3] }
  | _ => none }
def CheckMoreWrongFalsely : Prop := checkMoreRow.holds Tryz.pinned (OpenSpec.ofChange checkMoreWrong)

/-- 'kedgelaw11.CheckFees': WHATEVER THE INPUT: true; the input reads as it did. -/
def checkFeesSpec : ChangeSpec := { name := "checkFees", fn := fun _ => fun
  | [d] => { results := [.lit (.bool true)], args := [d] }
  | _ => none }
def checkFeesRow : OpenClaim := { program := "ytelindgnkpfkiaagreatdoor", sum := "258c8abc9d7ff04ea8bb179251204245e76fbd4d928ec856685bd35770004388", func := "kedge/kedgelaw11.CheckFees", spec := "checkFees", inPlace := ["internal/abi.NoEscape", "internal/bytealg.MakeNoZero", "internal/reflectlite.ValueOf", "(internal/reflectlite.Value).Type", "(internal/reflectlite.Value).IsNil", "internal/reflectlite.TypeOf", "(internal/reflectlite.Value).Elem", "(internal/reflectlite.Value).Set"], unfollowed := true, recurses := true, named := ["errors.errorType"], plainKeys := false, apart := false, laid := [("errors.errorType", laid_errors_errorType)] }
def CheckFeesSaid : Prop := checkFeesRow.holds Tryz.pinned (OpenSpec.ofChange checkFeesSpec)

/-- ITS FALSE NEIGHBOUR: 'it returns false'. Refute it at one input. -/
def checkFeesWrong : ChangeSpec := { name := "checkFees", fn := fun _ => fun
  | [d] => { results := [.lit (.bool false)], args := [d] }
  | _ => none }
def CheckFeesWrongFalsely : Prop := checkFeesRow.holds Tryz.pinned (OpenSpec.ofChange checkFeesWrong)

/-- 'kedgelaw11.CheckKeeps': WHATEVER THE INPUT: true; the input reads as it did. -/
def checkKeepsSpec : ChangeSpec := { name := "checkKeeps", fn := fun _ => fun
  | [d] => { results := [.lit (.bool true)], args := [d] }
  | _ => none }
def checkKeepsRow : OpenClaim := { program := "ytelindgnkpfkiaagreatdoor", sum := "258c8abc9d7ff04ea8bb179251204245e76fbd4d928ec856685bd35770004388", func := "kedge/kedgelaw11.CheckKeeps", spec := "checkKeeps", inPlace := ["internal/abi.NoEscape", "internal/bytealg.MakeNoZero", "internal/reflectlite.TypeOf", "internal/reflectlite.ValueOf", "(internal/reflectlite.Value).Type", "(internal/reflectlite.Value).IsNil", "(internal/reflectlite.Value).Elem", "(internal/reflectlite.Value).Set"], unfollowed := true, recurses := true, named := ["errors.errorType"], plainKeys := false, apart := false, laid := [("errors.errorType", laid_errors_errorType)] }
def CheckKeepsSaid : Prop := checkKeepsRow.holds Tryz.pinned (OpenSpec.ofChange checkKeepsSpec)

/-- ITS FALSE NEIGHBOUR: 'it returns false'. Refute it at one input. -/
def checkKeepsWrong : ChangeSpec := { name := "checkKeeps", fn := fun _ => fun
  | [d] => { results := [.lit (.bool false)], args := [d] }
  | _ => none }
def CheckKeepsWrongFalsely : Prop := checkKeepsRow.holds Tryz.pinned (OpenSpec.ofChange checkKeepsWrong)

/-- 'kedgelaw11.CheckLater': WHATEVER THE INPUT: true; the input reads as it did. -/
def checkLaterSpec : ChangeSpec := { name := "checkLater", fn := fun _ => fun
  | [d1, d2, d3] => { results := [.lit (.bool true)], args := [d1, d2, d3] }
  | _ => none }
def checkLaterRow : OpenClaim := { program := "ytelindgnkpfkiaagreatdoor", sum := "258c8abc9d7ff04ea8bb179251204245e76fbd4d928ec856685bd35770004388", func := "kedge/kedgelaw11.CheckLater", spec := "checkLater", inPlace := ["internal/abi.NoEscape", "internal/bytealg.MakeNoZero", "internal/reflectlite.TypeOf", "internal/reflectlite.ValueOf", "(internal/reflectlite.Value).Type", "(internal/reflectlite.Value).IsNil", "(internal/reflectlite.Value).Elem", "(internal/reflectlite.Value).Set"], unfollowed := true, recurses := true, named := ["errors.errorType"], plainKeys := false, apart := false, laid := [("errors.errorType", laid_errors_errorType)] }
def CheckLaterSaid : Prop := checkLaterRow.holds Tryz.pinned (OpenSpec.ofChange checkLaterSpec)

/-- ITS FALSE NEIGHBOUR: 'it returns false'. Refute it at one input. -/
def checkLaterWrong : ChangeSpec := { name := "checkLater", fn := fun _ => fun
  | [d1, d2, d3] => { results := [.lit (.bool false)], args := [d1, d2, d3] }
  | _ => none }
def CheckLaterWrongFalsely : Prop := checkLaterRow.holds Tryz.pinned (OpenSpec.ofChange checkLaterWrong)

/- THE SECOND FORM. 'bulk': how many values and letters a reading holds, each counted each time it is reached (what is shared counts as often as it is met; a slice's spare places count too). A statement '..UptoSaid' is the law's where the arguments, and the package variables that the reading takes, are together of bulk at most 1048576: NARROWER than '..Said'. Prove '..Said' where nothing that the law and all that it calls make is longer than what came in: it says more and counts as full. Else prove '..UptoSaid'. A law counts once. -/
mutual
def uptoBulk {H : Type} : DataW H → Nat
  | .lit (.string bytes) => bytes.length + 1
  | .lit _ => 1
  | .nil => 1
  | .ptr d => uptoBulk d + 1
  | .slice elems spare => uptoBulkAll elems + uptoBulkAll spare + 1
  | .agg parts => uptoBulkAll parts + 1
  | .iface _ d => uptoBulk d + 1
  | .map entries => uptoBulkEntries entries + 1
  | .held _ => 1
def uptoBulkAll {H : Type} : List (DataW H) → Nat
  | [] => 0
  | d :: r => uptoBulk d + uptoBulkAll r
def uptoBulkEntries {H : Type} : List (Lit × DataW H) → Nat
  | [] => 0
  | x :: r => uptoBulkEntry x + uptoBulkEntries r
def uptoBulkEntry {H : Type} : Lit × DataW H → Nat
  | (.string bytes, d) => bytes.length + uptoBulk d + 1
  | (_, d) => uptoBulk d + 1
 end
def uptoSmall : (H : Type) → List (DataW H) → Bool := fun _ ds => decide (uptoBulkAll ds ≤ 1048576)
def OpenSpec.upto (s : _root_.Go.ChangeSpec) : _root_.Go.OpenSpec := { _root_.Go.OpenSpec.ofChange s with cond := some uptoSmall }

/-- 'kedgelaw11.CheckMore', WHERE WHAT IT READS IS OF BULK AT MOST 1048576: true; the input reads as it did. -/
def checkMoreUptoRow : OpenClaim := { program := "ytelindgnkpfkiaagreatdoor", sum := "258c8abc9d7ff04ea8bb179251204245e76fbd4d928ec856685bd35770004388", func := "kedge/kedgelaw11.CheckMore", spec := "checkMore", inPlace := ["internal/abi.NoEscape", "internal/bytealg.MakeNoZero", "internal/reflectlite.TypeOf", "internal/reflectlite.ValueOf", "(internal/reflectlite.Value).Type", "(internal/reflectlite.Value).IsNil", "(internal/reflectlite.Value).Elem", "(internal/reflectlite.Value).Set"], unfollowed := true, recurses := true, named := ["errors.errorType"], plainKeys := false, apart := false, laid := [("errors.errorType", laid_errors_errorType)], narrowed := true }
def CheckMoreUptoSaid : Prop := checkMoreUptoRow.holds Tryz.pinned (OpenSpec.upto checkMoreSpec)

/-- 'kedgelaw11.CheckFees', WHERE WHAT IT READS IS OF BULK AT MOST 1048576: true; the input reads as it did. -/
def checkFeesUptoRow : OpenClaim := { program := "ytelindgnkpfkiaagreatdoor", sum := "258c8abc9d7ff04ea8bb179251204245e76fbd4d928ec856685bd35770004388", func := "kedge/kedgelaw11.CheckFees", spec := "checkFees", inPlace := ["internal/abi.NoEscape", "internal/bytealg.MakeNoZero", "internal/reflectlite.ValueOf", "(internal/reflectlite.Value).Type", "(internal/reflectlite.Value).IsNil", "internal/reflectlite.TypeOf", "(internal/reflectlite.Value).Elem", "(internal/reflectlite.Value).Set"], unfollowed := true, recurses := true, named := ["errors.errorType"], plainKeys := false, apart := false, laid := [("errors.errorType", laid_errors_errorType)], narrowed := true }
def CheckFeesUptoSaid : Prop := checkFeesUptoRow.holds Tryz.pinned (OpenSpec.upto checkFeesSpec)

/-- 'kedgelaw11.CheckKeeps', WHERE WHAT IT READS IS OF BULK AT MOST 1048576: true; the input reads as it did. -/
def checkKeepsUptoRow : OpenClaim := { program := "ytelindgnkpfkiaagreatdoor", sum := "258c8abc9d7ff04ea8bb179251204245e76fbd4d928ec856685bd35770004388", func := "kedge/kedgelaw11.CheckKeeps", spec := "checkKeeps", inPlace := ["internal/abi.NoEscape", "internal/bytealg.MakeNoZero", "internal/reflectlite.TypeOf", "internal/reflectlite.ValueOf", "(internal/reflectlite.Value).Type", "(internal/reflectlite.Value).IsNil", "(internal/reflectlite.Value).Elem", "(internal/reflectlite.Value).Set"], unfollowed := true, recurses := true, named := ["errors.errorType"], plainKeys := false, apart := false, laid := [("errors.errorType", laid_errors_errorType)], narrowed := true }
def CheckKeepsUptoSaid : Prop := checkKeepsUptoRow.holds Tryz.pinned (OpenSpec.upto checkKeepsSpec)

/-- 'kedgelaw11.CheckLater', WHERE WHAT IT READS IS OF BULK AT MOST 1048576: true; the input reads as it did. -/
def checkLaterUptoRow : OpenClaim := { program := "ytelindgnkpfkiaagreatdoor", sum := "258c8abc9d7ff04ea8bb179251204245e76fbd4d928ec856685bd35770004388", func := "kedge/kedgelaw11.CheckLater", spec := "checkLater", inPlace := ["internal/abi.NoEscape", "internal/bytealg.MakeNoZero", "internal/reflectlite.TypeOf", "internal/reflectlite.ValueOf", "(internal/reflectlite.Value).Type", "(internal/reflectlite.Value).IsNil", "(internal/reflectlite.Value).Elem", "(internal/reflectlite.Value).Set"], unfollowed := true, recurses := true, named := ["errors.errorType"], plainKeys := false, apart := false, laid := [("errors.errorType", laid_errors_errorType)], narrowed := true }
def CheckLaterUptoSaid : Prop := checkLaterUptoRow.holds Tryz.pinned (OpenSpec.upto checkLaterSpec)

end Rows
end Go.Proofs.YtelindgnkpfkiaaGreatDoor
