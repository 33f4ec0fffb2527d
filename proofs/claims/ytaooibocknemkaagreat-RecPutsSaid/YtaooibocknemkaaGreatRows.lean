/-
  No cell of these rows narrows 'for every input' (looked for: loops, veiled, ifaces, maps, wideKeys, modest, calm, conditions, laid).
  DERIVED. THE GIVEN ROWS OF THIS SEAT. 6 by the template 'for every input the law returns true; each argument reads behind the call as it read before'; 0 by the template 'total and deterministic' (their statements: YtaooibocknemkaaGreatTotals.lean).
  GIVEN WITH THE SEED: the statements are not yours to turn. If you find one false, say at which input.
  Laid BY PROGRAM, IN A SANDBOX (cutbox-rows.mjs): the forced cells as the released guide's own fill.sh prints them over the translation 4642dc44e7cea6b8… (all of the seat's roots in one cut). By AI agents, Wed Nov 11 2026. No macro, syntax, notation, axiom, sorry.
-/
import Derived.Test.YtaooibocknemkaaGreatChecked
import GoSem.Claim
import GoSem.ClaimJoined
import GoSem.ClaimMapViews
import Derived.JoinedTies
import Derived.KernelRfl
namespace Go.Proofs.YtaooibocknemkaaGreat
/- THE CELL 'sum', in the pinned program and in every row, IS THE sha256 OF THE DUMP (.gsa) THAT YtaooibocknemkaaGreatProg.lean LOADS. Nothing in Lean hashes anything: it is a label: what it is worth is what the hold of that sum in a sandbox is worth. -/
noncomputable def Tryz.pinned : Pinned := { name := "ytaooibocknemkaagreat", sum := "4642dc44e7cea6b809298b551b3b13673014de7da1b1daee8213e45f7617239e", checked := Tryz.checked }
namespace Rows
def none {H : Type} : Left H := { results := [], args := [] }

/-- 'kedgelaw26.RecPuts': WHATEVER THE INPUT: true; the input reads as it did. -/
def recPutsSpec : ChangeSpec := { name := "recPuts", fn := fun _ => fun
  | [d1, d2] => { results := [.lit (.bool true)], args := [d1, d2] }
  | _ => none }
def recPutsRow : OpenClaim := { program := "ytaooibocknemkaagreat", sum := "4642dc44e7cea6b809298b551b3b13673014de7da1b1daee8213e45f7617239e", func := "kedge/kedgelaw26.RecPuts", spec := "recPuts", inPlace := ["internal/abi.NoEscape", "internal/bytealg.MakeNoZero"], unfollowed := true, recurses := true, plainKeys := false, apart := false }
def RecPutsSaid : Prop := recPutsRow.holds Tryz.pinned (OpenSpec.ofChange recPutsSpec)

/-- ITS FALSE NEIGHBOUR: 'it returns false'. Refute it at one input. -/
def recPutsWrong : ChangeSpec := { name := "recPuts", fn := fun _ => fun
  | [d1, d2] => { results := [.lit (.bool false)], args := [d1, d2] }
  | _ => none }
def RecPutsWrongFalsely : Prop := recPutsRow.holds Tryz.pinned (OpenSpec.ofChange recPutsWrong)

/-- 'kedgelaw28.JournalOnce': WHATEVER THE INPUT: true; the input reads as it did. -/
def journalOnceSpec : ChangeSpec := { name := "journalOnce", fn := fun _ => fun
  | [d1, d2] => { results := [.lit (.bool true)], args := [d1, d2] }
  | _ => none }
def journalOnceRow : OpenClaim := { program := "ytaooibocknemkaagreat", sum := "4642dc44e7cea6b809298b551b3b13673014de7da1b1daee8213e45f7617239e", func := "kedge/kedgelaw28.JournalOnce", spec := "journalOnce", inPlace := ["internal/abi.NoEscape", "internal/bytealg.MakeNoZero"], unfollowed := true, recurses := true, plainKeys := false, apart := false }
def JournalOnceSaid : Prop := journalOnceRow.holds Tryz.pinned (OpenSpec.ofChange journalOnceSpec)

/-- ITS FALSE NEIGHBOUR: 'it returns false'. Refute it at one input. -/
def journalOnceWrong : ChangeSpec := { name := "journalOnce", fn := fun _ => fun
  | [d1, d2] => { results := [.lit (.bool false)], args := [d1, d2] }
  | _ => none }
def JournalOnceWrongFalsely : Prop := journalOnceRow.holds Tryz.pinned (OpenSpec.ofChange journalOnceWrong)

/-- 'kedgelaw28.JournalCopies': WHATEVER THE INPUT: true; the input reads as it did. -/
def journalCopiesSpec : ChangeSpec := { name := "journalCopies", fn := fun _ => fun
  | [d] => { results := [.lit (.bool true)], args := [d] }
  | _ => none }
def journalCopiesRow : OpenClaim := { program := "ytaooibocknemkaagreat", sum := "4642dc44e7cea6b809298b551b3b13673014de7da1b1daee8213e45f7617239e", func := "kedge/kedgelaw28.JournalCopies", spec := "journalCopies", inPlace := ["internal/abi.NoEscape", "internal/bytealg.MakeNoZero"], unfollowed := true, recurses := true, plainKeys := false, apart := false }
def JournalCopiesSaid : Prop := journalCopiesRow.holds Tryz.pinned (OpenSpec.ofChange journalCopiesSpec)

/-- ITS FALSE NEIGHBOUR: 'it returns false'. Refute it at one input. -/
def journalCopiesWrong : ChangeSpec := { name := "journalCopies", fn := fun _ => fun
  | [d] => { results := [.lit (.bool false)], args := [d] }
  | _ => none }
def JournalCopiesWrongFalsely : Prop := journalCopiesRow.holds Tryz.pinned (OpenSpec.ofChange journalCopiesWrong)

/-- 'kedgelaw28.JournalPlays': WHATEVER THE INPUT: true; the input reads as it did. -/
def journalPlaysSpec : ChangeSpec := { name := "journalPlays", fn := fun _ => fun
  | [d] => { results := [.lit (.bool true)], args := [d] }
  | _ => none }
def journalPlaysRow : OpenClaim := { program := "ytaooibocknemkaagreat", sum := "4642dc44e7cea6b809298b551b3b13673014de7da1b1daee8213e45f7617239e", func := "kedge/kedgelaw28.JournalPlays", spec := "journalPlays", inPlace := ["internal/abi.NoEscape", "internal/bytealg.MakeNoZero"], unfollowed := true, recurses := true, plainKeys := false, apart := false }
def JournalPlaysSaid : Prop := journalPlaysRow.holds Tryz.pinned (OpenSpec.ofChange journalPlaysSpec)

/-- ITS FALSE NEIGHBOUR: 'it returns false'. Refute it at one input. -/
def journalPlaysWrong : ChangeSpec := { name := "journalPlays", fn := fun _ => fun
  | [d] => { results := [.lit (.bool false)], args := [d] }
  | _ => none }
def JournalPlaysWrongFalsely : Prop := journalPlaysRow.holds Tryz.pinned (OpenSpec.ofChange journalPlaysWrong)

/-- 'kedgelaw28.JournalOpens': WHATEVER THE INPUT: true; the input reads as it did. -/
def journalOpensSpec : ChangeSpec := { name := "journalOpens", fn := fun _ => fun
  | [d1, d2, d3] => { results := [.lit (.bool true)], args := [d1, d2, d3] }
  | _ => none }
def journalOpensRow : OpenClaim := { program := "ytaooibocknemkaagreat", sum := "4642dc44e7cea6b809298b551b3b13673014de7da1b1daee8213e45f7617239e", func := "kedge/kedgelaw28.JournalOpens", spec := "journalOpens", inPlace := ["internal/abi.NoEscape", "internal/bytealg.MakeNoZero"], unfollowed := true, recurses := true, plainKeys := false, apart := false }
def JournalOpensSaid : Prop := journalOpensRow.holds Tryz.pinned (OpenSpec.ofChange journalOpensSpec)

/-- ITS FALSE NEIGHBOUR: 'it returns false'. Refute it at one input. -/
def journalOpensWrong : ChangeSpec := { name := "journalOpens", fn := fun _ => fun
  | [d1, d2, d3] => { results := [.lit (.bool false)], args := [d1, d2, d3] }
  | _ => none }
def JournalOpensWrongFalsely : Prop := journalOpensRow.holds Tryz.pinned (OpenSpec.ofChange journalOpensWrong)

/-- 'kedgelaw28.JournalCrash': WHATEVER THE INPUT: true; the input reads as it did. -/
def journalCrashSpec : ChangeSpec := { name := "journalCrash", fn := fun _ => fun
  | [d1, d2, d3] => { results := [.lit (.bool true)], args := [d1, d2, d3] }
  | _ => none }
def journalCrashRow : OpenClaim := { program := "ytaooibocknemkaagreat", sum := "4642dc44e7cea6b809298b551b3b13673014de7da1b1daee8213e45f7617239e", func := "kedge/kedgelaw28.JournalCrash", spec := "journalCrash", inPlace := ["internal/abi.NoEscape", "internal/bytealg.MakeNoZero"], unfollowed := true, recurses := true, plainKeys := false, apart := false }
def JournalCrashSaid : Prop := journalCrashRow.holds Tryz.pinned (OpenSpec.ofChange journalCrashSpec)

/-- ITS FALSE NEIGHBOUR: 'it returns false'. Refute it at one input. -/
def journalCrashWrong : ChangeSpec := { name := "journalCrash", fn := fun _ => fun
  | [d1, d2, d3] => { results := [.lit (.bool false)], args := [d1, d2, d3] }
  | _ => none }
def JournalCrashWrongFalsely : Prop := journalCrashRow.holds Tryz.pinned (OpenSpec.ofChange journalCrashWrong)

/- THE SECOND FORM. 'bulk': how many values and letters a reading holds, each counted each time it is reached (what is shared counts as often as it is met; a slice's spare places count too). A statement '..UptoSaid' is the law's where the arguments, and the package variables that the reading takes, are together of bulk at most 1048576: NARROWER than '..Said'. Prove '..Said' where nothing that the law and all that it calls make is longer than what came in: it says more and counts as full. Else prove '..UptoSaid'. A law counts once. -/
mutual
def uptoBulk {H : Type} : DataW H → Nat
  | .lit (.string bytes) => bytes.length + 1
  | .lit _ => 1
  | .nil => 1
  | .ptr d => uptoBulk d + 1
  | .slice elems spare => uptoBulkAll elems + uptoBulkAll spare + 1
  | .agg parts => uptoBulkAll parts + 1
  | .iface _ d => uptoBulk d + 1
  | .map entries => uptoBulkEntries entries + 1
  | .held _ => 1
def uptoBulkAll {H : Type} : List (DataW H) → Nat
  | [] => 0
  | d :: r => uptoBulk d + uptoBulkAll r
def uptoBulkEntries {H : Type} : List (Lit × DataW H) → Nat
  | [] => 0
  | x :: r => uptoBulkEntry x + uptoBulkEntries r
def uptoBulkEntry {H : Type} : Lit × DataW H → Nat
  | (.string bytes, d) => bytes.length + uptoBulk d + 1
  | (_, d) => uptoBulk d + 1
 end
def uptoSmall : (H : Type) → List (DataW H) → Bool := fun _ ds => decide (uptoBulkAll ds ≤ 1048576)
def OpenSpec.upto (s : _root_.Go.ChangeSpec) : _root_.Go.OpenSpec := { _root_.Go.OpenSpec.ofChange s with cond := some uptoSmall }

/-- 'kedgelaw26.RecPuts', WHERE WHAT IT READS IS OF BULK AT MOST 1048576: true; the input reads as it did. -/
def recPutsUptoRow : OpenClaim := { program := "ytaooibocknemkaagreat", sum := "4642dc44e7cea6b809298b551b3b13673014de7da1b1daee8213e45f7617239e", func := "kedge/kedgelaw26.RecPuts", spec := "recPuts", inPlace := ["internal/abi.NoEscape", "internal/bytealg.MakeNoZero"], unfollowed := true, recurses := true, plainKeys := false, apart := false, narrowed := true }
def RecPutsUptoSaid : Prop := recPutsUptoRow.holds Tryz.pinned (OpenSpec.upto recPutsSpec)

/-- 'kedgelaw28.JournalOnce', WHERE WHAT IT READS IS OF BULK AT MOST 1048576: true; the input reads as it did. -/
def journalOnceUptoRow : OpenClaim := { program := "ytaooibocknemkaagreat", sum := "4642dc44e7cea6b809298b551b3b13673014de7da1b1daee8213e45f7617239e", func := "kedge/kedgelaw28.JournalOnce", spec := "journalOnce", inPlace := ["internal/abi.NoEscape", "internal/bytealg.MakeNoZero"], unfollowed := true, recurses := true, plainKeys := false, apart := false, narrowed := true }
def JournalOnceUptoSaid : Prop := journalOnceUptoRow.holds Tryz.pinned (OpenSpec.upto journalOnceSpec)

/-- 'kedgelaw28.JournalCopies', WHERE WHAT IT READS IS OF BULK AT MOST 1048576: true; the input reads as it did. -/
def journalCopiesUptoRow : OpenClaim := { program := "ytaooibocknemkaagreat", sum := "4642dc44e7cea6b809298b551b3b13673014de7da1b1daee8213e45f7617239e", func := "kedge/kedgelaw28.JournalCopies", spec := "journalCopies", inPlace := ["internal/abi.NoEscape", "internal/bytealg.MakeNoZero"], unfollowed := true, recurses := true, plainKeys := false, apart := false, narrowed := true }
def JournalCopiesUptoSaid : Prop := journalCopiesUptoRow.holds Tryz.pinned (OpenSpec.upto journalCopiesSpec)

/-- 'kedgelaw28.JournalPlays', WHERE WHAT IT READS IS OF BULK AT MOST 1048576: true; the input reads as it did. -/
def journalPlaysUptoRow : OpenClaim := { program := "ytaooibocknemkaagreat", sum := "4642dc44e7cea6b809298b551b3b13673014de7da1b1daee8213e45f7617239e", func := "kedge/kedgelaw28.JournalPlays", spec := "journalPlays", inPlace := ["internal/abi.NoEscape", "internal/bytealg.MakeNoZero"], unfollowed := true, recurses := true, plainKeys := false, apart := false, narrowed := true }
def JournalPlaysUptoSaid : Prop := journalPlaysUptoRow.holds Tryz.pinned (OpenSpec.upto journalPlaysSpec)

/-- 'kedgelaw28.JournalOpens', WHERE WHAT IT READS IS OF BULK AT MOST 1048576: true; the input reads as it did. -/
def journalOpensUptoRow : OpenClaim := { program := "ytaooibocknemkaagreat", sum := "4642dc44e7cea6b809298b551b3b13673014de7da1b1daee8213e45f7617239e", func := "kedge/kedgelaw28.JournalOpens", spec := "journalOpens", inPlace := ["internal/abi.NoEscape", "internal/bytealg.MakeNoZero"], unfollowed := true, recurses := true, plainKeys := false, apart := false, narrowed := true }
def JournalOpensUptoSaid : Prop := journalOpensUptoRow.holds Tryz.pinned (OpenSpec.upto journalOpensSpec)

/-- 'kedgelaw28.JournalCrash', WHERE WHAT IT READS IS OF BULK AT MOST 1048576: true; the input reads as it did. -/
def journalCrashUptoRow : OpenClaim := { program := "ytaooibocknemkaagreat", sum := "4642dc44e7cea6b809298b551b3b13673014de7da1b1daee8213e45f7617239e", func := "kedge/kedgelaw28.JournalCrash", spec := "journalCrash", inPlace := ["internal/abi.NoEscape", "internal/bytealg.MakeNoZero"], unfollowed := true, recurses := true, plainKeys := false, apart := false, narrowed := true }
def JournalCrashUptoSaid : Prop := journalCrashUptoRow.holds Tryz.pinned (OpenSpec.upto journalCrashSpec)

end Rows
end Go.Proofs.YtaooibocknemkaaGreat
