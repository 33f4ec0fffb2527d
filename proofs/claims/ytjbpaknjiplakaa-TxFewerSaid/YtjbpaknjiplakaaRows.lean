/-
  No cell of these rows narrows 'for every input' (looked for: loops, veiled, ifaces, maps, wideKeys, modest, calm, conditions, laid).
  DERIVED. THE GIVEN ROWS OF THIS SEAT. 6 by the template 'for every input the law returns true; each argument reads behind the call as it read before'; 0 by the template 'total and deterministic' (their statements: YtjbpaknjiplakaaTotals.lean).
  GIVEN WITH THE SEED: the statements are not yours to turn. If you find one false, say at which input.
  Laid BY PROGRAM, IN A SANDBOX (cutbox-rows.mjs): the forced cells as the released guide's own fill.sh prints them over the translation 6013d1e6d73f1bf0… (all of the seat's roots in one cut). By AI agents, Wed Nov 11 2026. No macro, syntax, notation, axiom, sorry.
-/
import Derived.Test.YtjbpaknjiplakaaChecked
import GoSem.Claim
import GoSem.ClaimJoined
import GoSem.ClaimMapViews
import Derived.JoinedTies
import Derived.KernelRfl
namespace Go.Proofs.Ytjbpaknjiplakaa
/- THE CELL 'sum', in the pinned program and in every row, IS THE sha256 OF THE DUMP (.gsa) THAT YtjbpaknjiplakaaProg.lean LOADS. Nothing in Lean hashes anything: it is a label: what it is worth is what the hold of that sum in a sandbox is worth. -/
noncomputable def Try.pinned : Pinned := { name := "ytjbpaknjiplakaa", sum := "6013d1e6d73f1bf0d21a1820ae9bf433f39b08b786aca0e6097fb303e84e5e44", checked := Try.checked }
namespace Rows
def none {H : Type} : Left H := { results := [], args := [] }

/-- 'kedgelaw05.TxChecks': WHATEVER THE INPUT: true; the input reads as it did. -/
def txChecksSpec : ChangeSpec := { name := "txChecks", fn := fun _ => fun
  | [d] => { results := [.lit (.bool true)], args := [d] }
  | _ => none }
def txChecksRow : OpenClaim := { program := "ytjbpaknjiplakaa", sum := "6013d1e6d73f1bf0d21a1820ae9bf433f39b08b786aca0e6097fb303e84e5e44", func := "kedge/kedgelaw05.TxChecks", spec := "txChecks", inPlace := ["internal/abi.NoEscape", "internal/bytealg.MakeNoZero", "internal/bytealg.abigen_runtime_cmpstring"], unfollowed := true, recurses := true, plainKeys := false, apart := false }
def TxChecksSaid : Prop := txChecksRow.holds Try.pinned (OpenSpec.ofChange txChecksSpec)

/-- ITS FALSE NEIGHBOUR: 'it returns false'. Refute it at one input. -/
def txChecksWrong : ChangeSpec := { name := "txChecks", fn := fun _ => fun
  | [d] => { results := [.lit (.bool false)], args := [d] }
  | _ => none }
def TxChecksWrongFalsely : Prop := txChecksRow.holds Try.pinned (OpenSpec.ofChange txChecksWrong)

/-- 'kedgelaw05.TxCounts': WHATEVER THE INPUT: true; the input reads as it did. -/
def txCountsSpec : ChangeSpec := { name := "txCounts", fn := fun _ => fun
  | [d1, d2, d3] => { results := [.lit (.bool true)], args := [d1, d2, d3] }
  | _ => none }
def txCountsRow : OpenClaim := { program := "ytjbpaknjiplakaa", sum := "6013d1e6d73f1bf0d21a1820ae9bf433f39b08b786aca0e6097fb303e84e5e44", func := "kedge/kedgelaw05.TxCounts", spec := "txCounts", inPlace := ["internal/abi.NoEscape", "internal/bytealg.MakeNoZero", "internal/bytealg.abigen_runtime_cmpstring"], unfollowed := true, recurses := true, plainKeys := false, apart := false }
def TxCountsSaid : Prop := txCountsRow.holds Try.pinned (OpenSpec.ofChange txCountsSpec)

/-- ITS FALSE NEIGHBOUR: 'it returns false'. Refute it at one input. -/
def txCountsWrong : ChangeSpec := { name := "txCounts", fn := fun _ => fun
  | [d1, d2, d3] => { results := [.lit (.bool false)], args := [d1, d2, d3] }
  | _ => none }
def TxCountsWrongFalsely : Prop := txCountsRow.holds Try.pinned (OpenSpec.ofChange txCountsWrong)

/-- 'kedgelaw05.TxGrants': WHATEVER THE INPUT: true; the input reads as it did. -/
def txGrantsSpec : ChangeSpec := { name := "txGrants", fn := fun _ => fun
  | [d1, d2] => { results := [.lit (.bool true)], args := [d1, d2] }
  | _ => none }
def txGrantsRow : OpenClaim := { program := "ytjbpaknjiplakaa", sum := "6013d1e6d73f1bf0d21a1820ae9bf433f39b08b786aca0e6097fb303e84e5e44", func := "kedge/kedgelaw05.TxGrants", spec := "txGrants", inPlace := ["internal/abi.NoEscape", "internal/bytealg.MakeNoZero", "internal/bytealg.abigen_runtime_cmpstring"], unfollowed := true, recurses := true, plainKeys := false, apart := false }
def TxGrantsSaid : Prop := txGrantsRow.holds Try.pinned (OpenSpec.ofChange txGrantsSpec)

/-- ITS FALSE NEIGHBOUR: 'it returns false'. Refute it at one input. -/
def txGrantsWrong : ChangeSpec := { name := "txGrants", fn := fun _ => fun
  | [d1, d2] => { results := [.lit (.bool false)], args := [d1, d2] }
  | _ => none }
def TxGrantsWrongFalsely : Prop := txGrantsRow.holds Try.pinned (OpenSpec.ofChange txGrantsWrong)

/-- 'kedgelaw05.TxSpends': WHATEVER THE INPUT: true; the input reads as it did. -/
def txSpendsSpec : ChangeSpec := { name := "txSpends", fn := fun _ => fun
  | [d1, d2, d3] => { results := [.lit (.bool true)], args := [d1, d2, d3] }
  | _ => none }
def txSpendsRow : OpenClaim := { program := "ytjbpaknjiplakaa", sum := "6013d1e6d73f1bf0d21a1820ae9bf433f39b08b786aca0e6097fb303e84e5e44", func := "kedge/kedgelaw05.TxSpends", spec := "txSpends", inPlace := ["internal/bytealg.abigen_runtime_cmpstring", "internal/abi.NoEscape", "internal/bytealg.MakeNoZero"], unfollowed := true, recurses := true, plainKeys := false, apart := false }
def TxSpendsSaid : Prop := txSpendsRow.holds Try.pinned (OpenSpec.ofChange txSpendsSpec)

/-- ITS FALSE NEIGHBOUR: 'it returns false'. Refute it at one input. -/
def txSpendsWrong : ChangeSpec := { name := "txSpends", fn := fun _ => fun
  | [d1, d2, d3] => { results := [.lit (.bool false)], args := [d1, d2, d3] }
  | _ => none }
def TxSpendsWrongFalsely : Prop := txSpendsRow.holds Try.pinned (OpenSpec.ofChange txSpendsWrong)

/-- 'kedgelaw05.TxFewer': WHATEVER THE INPUT: true; the input reads as it did. -/
def txFewerSpec : ChangeSpec := { name := "txFewer", fn := fun _ => fun
  | [d1, d2, d3] => { results := [.lit (.bool true)], args := [d1, d2, d3] }
  | _ => none }
def txFewerRow : OpenClaim := { program := "ytjbpaknjiplakaa", sum := "6013d1e6d73f1bf0d21a1820ae9bf433f39b08b786aca0e6097fb303e84e5e44", func := "kedge/kedgelaw05.TxFewer", spec := "txFewer", inPlace := ["internal/abi.NoEscape", "internal/bytealg.MakeNoZero", "internal/bytealg.abigen_runtime_cmpstring"], unfollowed := true, recurses := true, plainKeys := false, apart := false }
def TxFewerSaid : Prop := txFewerRow.holds Try.pinned (OpenSpec.ofChange txFewerSpec)

/-- ITS FALSE NEIGHBOUR: 'it returns false'. Refute it at one input. -/
def txFewerWrong : ChangeSpec := { name := "txFewer", fn := fun _ => fun
  | [d1, d2, d3] => { results := [.lit (.bool false)], args := [d1, d2, d3] }
  | _ => none }
def TxFewerWrongFalsely : Prop := txFewerRow.holds Try.pinned (OpenSpec.ofChange txFewerWrong)

/-- 'kedgelaw05.TxCopies': WHATEVER THE INPUT: true; the input reads as it did. -/
def txCopiesSpec : ChangeSpec := { name := "txCopies", fn := fun _ => fun
  | [d1, d2, d3] => { results := [.lit (.bool true)], args := [d1, d2, d3] }
  | _ => none }
def txCopiesRow : OpenClaim := { program := "ytjbpaknjiplakaa", sum := "6013d1e6d73f1bf0d21a1820ae9bf433f39b08b786aca0e6097fb303e84e5e44", func := "kedge/kedgelaw05.TxCopies", spec := "txCopies", inPlace := ["internal/abi.NoEscape", "internal/bytealg.MakeNoZero", "internal/bytealg.abigen_runtime_cmpstring"], unfollowed := true, recurses := true, plainKeys := false, apart := false }
def TxCopiesSaid : Prop := txCopiesRow.holds Try.pinned (OpenSpec.ofChange txCopiesSpec)

/-- ITS FALSE NEIGHBOUR: 'it returns false'. Refute it at one input. -/
def txCopiesWrong : ChangeSpec := { name := "txCopies", fn := fun _ => fun
  | [d1, d2, d3] => { results := [.lit (.bool false)], args := [d1, d2, d3] }
  | _ => none }
def TxCopiesWrongFalsely : Prop := txCopiesRow.holds Try.pinned (OpenSpec.ofChange txCopiesWrong)

/- THE SECOND FORM. 'bulk': how many values and letters a reading holds, each counted each time it is reached (what is shared counts as often as it is met; a slice's spare places count too). A statement '..UptoSaid' is the law's where the arguments, and the package variables that the reading takes, are together of bulk at most 1048576: NARROWER than '..Said'. Prove '..Said' where nothing that the law and all that it calls make is longer than what came in: it says more and counts as full. Else prove '..UptoSaid'. A law counts once. -/
mutual
def uptoBulk {H : Type} : DataW H → Nat
  | .lit (.string bytes) => bytes.length + 1
  | .lit _ => 1
  | .nil => 1
  | .ptr d => uptoBulk d + 1
  | .slice elems spare => uptoBulkAll elems + uptoBulkAll spare + 1
  | .agg parts => uptoBulkAll parts + 1
  | .iface _ d => uptoBulk d + 1
  | .map entries => uptoBulkEntries entries + 1
  | .held _ => 1
def uptoBulkAll {H : Type} : List (DataW H) → Nat
  | [] => 0
  | d :: r => uptoBulk d + uptoBulkAll r
def uptoBulkEntries {H : Type} : List (Lit × DataW H) → Nat
  | [] => 0
  | x :: r => uptoBulkEntry x + uptoBulkEntries r
def uptoBulkEntry {H : Type} : Lit × DataW H → Nat
  | (.string bytes, d) => bytes.length + uptoBulk d + 1
  | (_, d) => uptoBulk d + 1
 end
def uptoSmall : (H : Type) → List (DataW H) → Bool := fun _ ds => decide (uptoBulkAll ds ≤ 1048576)
def OpenSpec.upto (s : _root_.Go.ChangeSpec) : _root_.Go.OpenSpec := { _root_.Go.OpenSpec.ofChange s with cond := some uptoSmall }

/-- 'kedgelaw05.TxChecks', WHERE WHAT IT READS IS OF BULK AT MOST 1048576: true; the input reads as it did. -/
def txChecksUptoRow : OpenClaim := { program := "ytjbpaknjiplakaa", sum := "6013d1e6d73f1bf0d21a1820ae9bf433f39b08b786aca0e6097fb303e84e5e44", func := "kedge/kedgelaw05.TxChecks", spec := "txChecks", inPlace := ["internal/abi.NoEscape", "internal/bytealg.MakeNoZero", "internal/bytealg.abigen_runtime_cmpstring"], unfollowed := true, recurses := true, plainKeys := false, apart := false, narrowed := true }
def TxChecksUptoSaid : Prop := txChecksUptoRow.holds Try.pinned (OpenSpec.upto txChecksSpec)

/-- 'kedgelaw05.TxCounts', WHERE WHAT IT READS IS OF BULK AT MOST 1048576: true; the input reads as it did. -/
def txCountsUptoRow : OpenClaim := { program := "ytjbpaknjiplakaa", sum := "6013d1e6d73f1bf0d21a1820ae9bf433f39b08b786aca0e6097fb303e84e5e44", func := "kedge/kedgelaw05.TxCounts", spec := "txCounts", inPlace := ["internal/abi.NoEscape", "internal/bytealg.MakeNoZero", "internal/bytealg.abigen_runtime_cmpstring"], unfollowed := true, recurses := true, plainKeys := false, apart := false, narrowed := true }
def TxCountsUptoSaid : Prop := txCountsUptoRow.holds Try.pinned (OpenSpec.upto txCountsSpec)

/-- 'kedgelaw05.TxGrants', WHERE WHAT IT READS IS OF BULK AT MOST 1048576: true; the input reads as it did. -/
def txGrantsUptoRow : OpenClaim := { program := "ytjbpaknjiplakaa", sum := "6013d1e6d73f1bf0d21a1820ae9bf433f39b08b786aca0e6097fb303e84e5e44", func := "kedge/kedgelaw05.TxGrants", spec := "txGrants", inPlace := ["internal/abi.NoEscape", "internal/bytealg.MakeNoZero", "internal/bytealg.abigen_runtime_cmpstring"], unfollowed := true, recurses := true, plainKeys := false, apart := false, narrowed := true }
def TxGrantsUptoSaid : Prop := txGrantsUptoRow.holds Try.pinned (OpenSpec.upto txGrantsSpec)

/-- 'kedgelaw05.TxSpends', WHERE WHAT IT READS IS OF BULK AT MOST 1048576: true; the input reads as it did. -/
def txSpendsUptoRow : OpenClaim := { program := "ytjbpaknjiplakaa", sum := "6013d1e6d73f1bf0d21a1820ae9bf433f39b08b786aca0e6097fb303e84e5e44", func := "kedge/kedgelaw05.TxSpends", spec := "txSpends", inPlace := ["internal/bytealg.abigen_runtime_cmpstring", "internal/abi.NoEscape", "internal/bytealg.MakeNoZero"], unfollowed := true, recurses := true, plainKeys := false, apart := false, narrowed := true }
def TxSpendsUptoSaid : Prop := txSpendsUptoRow.holds Try.pinned (OpenSpec.upto txSpendsSpec)

/-- 'kedgelaw05.TxFewer', WHERE WHAT IT READS IS OF BULK AT MOST 1048576: true; the input reads as it did. -/
def txFewerUptoRow : OpenClaim := { program := "ytjbpaknjiplakaa", sum := "6013d1e6d73f1bf0d21a1820ae9bf433f39b08b786aca0e6097fb303e84e5e44", func := "kedge/kedgelaw05.TxFewer", spec := "txFewer", inPlace := ["internal/abi.NoEscape", "internal/bytealg.MakeNoZero", "internal/bytealg.abigen_runtime_cmpstring"], unfollowed := true, recurses := true, plainKeys := false, apart := false, narrowed := true }
def TxFewerUptoSaid : Prop := txFewerUptoRow.holds Try.pinned (OpenSpec.upto txFewerSpec)

/-- 'kedgelaw05.TxCopies', WHERE WHAT IT READS IS OF BULK AT MOST 1048576: true; the input reads as it did. -/
def txCopiesUptoRow : OpenClaim := { program := "ytjbpaknjiplakaa", sum := "6013d1e6d73f1bf0d21a1820ae9bf433f39b08b786aca0e6097fb303e84e5e44", func := "kedge/kedgelaw05.TxCopies", spec := "txCopies", inPlace := ["internal/abi.NoEscape", "internal/bytealg.MakeNoZero", "internal/bytealg.abigen_runtime_cmpstring"], unfollowed := true, recurses := true, plainKeys := false, apart := false, narrowed := true }
def TxCopiesUptoSaid : Prop := txCopiesUptoRow.holds Try.pinned (OpenSpec.upto txCopiesSpec)

end Rows
end Go.Proofs.Ytjbpaknjiplakaa
