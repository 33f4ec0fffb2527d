/-
  No cell of these rows narrows 'for every input' (looked for: loops, veiled, ifaces, maps, wideKeys, modest, calm, conditions, laid).
  DERIVED. THE GIVEN ROWS OF THIS SEAT. 6 by the template 'for every input the law returns true; each argument reads behind the call as it read before'; 0 by the template 'total and deterministic' (their statements: YtmakghcoehkphaaGreatTotals.lean).
  GIVEN WITH THE SEED: the statements are not yours to turn. If you find one false, say at which input.
  Laid BY PROGRAM, IN A SANDBOX (cutbox-rows.mjs): the forced cells as the released guide's own fill.sh prints them over the translation dc9912f7c8822d51… (all of the seat's roots in one cut). By AI agents, Wed Nov 11 2026. No macro, syntax, notation, axiom, sorry.
-/
import Derived.Test.YtmakghcoehkphaaGreatChecked
import GoSem.Claim
import GoSem.ClaimJoined
import GoSem.ClaimMapViews
import Derived.JoinedTies
import Derived.KernelRfl
namespace Go.Proofs.YtmakghcoehkphaaGreat
/- THE CELL 'sum', in the pinned program and in every row, IS THE sha256 OF THE DUMP (.gsa) THAT YtmakghcoehkphaaGreatProg.lean LOADS. Nothing in Lean hashes anything: it is a label: what it is worth is what the hold of that sum in a sandbox is worth. -/
noncomputable def Tryz.pinned : Pinned := { name := "ytmakghcoehkphaagreat", sum := "dc9912f7c8822d518d3264b60bb35b24437881564c409624742beb354984bd52", checked := Tryz.checked }
namespace Rows
def none {H : Type} : Left H := { results := [], args := [] }

/-- 'kedgelaw25.ClaimBuilds': WHATEVER THE INPUT: true; the input reads as it did. -/
def claimBuildsSpec : ChangeSpec := { name := "claimBuilds", fn := fun _ => fun
  | [d] => { results := [.lit (.bool true)], args := [d] }
  | _ => none }
def claimBuildsRow : OpenClaim := { program := "ytmakghcoehkphaagreat", sum := "dc9912f7c8822d518d3264b60bb35b24437881564c409624742beb354984bd52", func := "kedge/kedgelaw25.ClaimBuilds", spec := "claimBuilds", inPlace := ["internal/abi.NoEscape", "internal/bytealg.MakeNoZero", "internal/bytealg.abigen_runtime_cmpstring"], unfollowed := true, recurses := true, plainKeys := false, apart := false }
def ClaimBuildsSaid : Prop := claimBuildsRow.holds Tryz.pinned (OpenSpec.ofChange claimBuildsSpec)

/-- ITS FALSE NEIGHBOUR: 'it returns false'. Refute it at one input. -/
def claimBuildsWrong : ChangeSpec := { name := "claimBuilds", fn := fun _ => fun
  | [d] => { results := [.lit (.bool false)], args := [d] }
  | _ => none }
def ClaimBuildsWrongFalsely : Prop := claimBuildsRow.holds Tryz.pinned (OpenSpec.ofChange claimBuildsWrong)

/-- 'kedgelaw25.ClaimSizes': WHATEVER THE INPUT: true; the input reads as it did. -/
def claimSizesSpec : ChangeSpec := { name := "claimSizes", fn := fun _ => fun
  | [d1, d2, d3] => { results := [.lit (.bool true)], args := [d1, d2, d3] }
  | _ => none }
def claimSizesRow : OpenClaim := { program := "ytmakghcoehkphaagreat", sum := "dc9912f7c8822d518d3264b60bb35b24437881564c409624742beb354984bd52", func := "kedge/kedgelaw25.ClaimSizes", spec := "claimSizes", inPlace := ["internal/abi.NoEscape", "internal/bytealg.MakeNoZero", "internal/bytealg.abigen_runtime_cmpstring"], unfollowed := true, recurses := true, plainKeys := false, apart := false }
def ClaimSizesSaid : Prop := claimSizesRow.holds Tryz.pinned (OpenSpec.ofChange claimSizesSpec)

/-- ITS FALSE NEIGHBOUR: 'it returns false'. Refute it at one input. -/
def claimSizesWrong : ChangeSpec := { name := "claimSizes", fn := fun _ => fun
  | [d1, d2, d3] => { results := [.lit (.bool false)], args := [d1, d2, d3] }
  | _ => none }
def ClaimSizesWrongFalsely : Prop := claimSizesRow.holds Tryz.pinned (OpenSpec.ofChange claimSizesWrong)

/-- 'kedgelaw25.ClaimAll': WHATEVER THE INPUT: true; the input reads as it did. -/
def claimAllSpec : ChangeSpec := { name := "claimAll", fn := fun _ => fun
  | [d1, d2] => { results := [.lit (.bool true)], args := [d1, d2] }
  | _ => none }
def claimAllRow : OpenClaim := { program := "ytmakghcoehkphaagreat", sum := "dc9912f7c8822d518d3264b60bb35b24437881564c409624742beb354984bd52", func := "kedge/kedgelaw25.ClaimAll", spec := "claimAll", inPlace := ["internal/bytealg.abigen_runtime_cmpstring", "internal/abi.NoEscape", "internal/bytealg.MakeNoZero"], unfollowed := true, recurses := true, plainKeys := false, apart := false }
def ClaimAllSaid : Prop := claimAllRow.holds Tryz.pinned (OpenSpec.ofChange claimAllSpec)

/-- ITS FALSE NEIGHBOUR: 'it returns false'. Refute it at one input. -/
def claimAllWrong : ChangeSpec := { name := "claimAll", fn := fun _ => fun
  | [d1, d2] => { results := [.lit (.bool false)], args := [d1, d2] }
  | _ => none }
def ClaimAllWrongFalsely : Prop := claimAllRow.holds Tryz.pinned (OpenSpec.ofChange claimAllWrong)

/-- 'kedgelaw25.ClaimGroups': WHATEVER THE INPUT: true; the input reads as it did. -/
def claimGroupsSpec : ChangeSpec := { name := "claimGroups", fn := fun _ => fun
  | [d1, d2] => { results := [.lit (.bool true)], args := [d1, d2] }
  | _ => none }
def claimGroupsRow : OpenClaim := { program := "ytmakghcoehkphaagreat", sum := "dc9912f7c8822d518d3264b60bb35b24437881564c409624742beb354984bd52", func := "kedge/kedgelaw25.ClaimGroups", spec := "claimGroups", inPlace := ["internal/bytealg.abigen_runtime_cmpstring", "internal/abi.NoEscape", "internal/bytealg.MakeNoZero"], unfollowed := true, recurses := true, plainKeys := false, apart := false }
def ClaimGroupsSaid : Prop := claimGroupsRow.holds Tryz.pinned (OpenSpec.ofChange claimGroupsSpec)

/-- ITS FALSE NEIGHBOUR: 'it returns false'. Refute it at one input. -/
def claimGroupsWrong : ChangeSpec := { name := "claimGroups", fn := fun _ => fun
  | [d1, d2] => { results := [.lit (.bool false)], args := [d1, d2] }
  | _ => none }
def ClaimGroupsWrongFalsely : Prop := claimGroupsRow.holds Tryz.pinned (OpenSpec.ofChange claimGroupsWrong)

/-- 'kedgelaw25.ClaimOrder': WHATEVER THE INPUT: true; the input reads as it did. -/
def claimOrderSpec : ChangeSpec := { name := "claimOrder", fn := fun _ => fun
  | [d1, d2] => { results := [.lit (.bool true)], args := [d1, d2] }
  | _ => none }
def claimOrderRow : OpenClaim := { program := "ytmakghcoehkphaagreat", sum := "dc9912f7c8822d518d3264b60bb35b24437881564c409624742beb354984bd52", func := "kedge/kedgelaw25.ClaimOrder", spec := "claimOrder", inPlace := ["internal/bytealg.abigen_runtime_cmpstring", "internal/abi.NoEscape", "internal/bytealg.MakeNoZero"], unfollowed := true, recurses := true, plainKeys := false, apart := false }
def ClaimOrderSaid : Prop := claimOrderRow.holds Tryz.pinned (OpenSpec.ofChange claimOrderSpec)

/-- ITS FALSE NEIGHBOUR: 'it returns false'. Refute it at one input. -/
def claimOrderWrong : ChangeSpec := { name := "claimOrder", fn := fun _ => fun
  | [d1, d2] => { results := [.lit (.bool false)], args := [d1, d2] }
  | _ => none }
def ClaimOrderWrongFalsely : Prop := claimOrderRow.holds Tryz.pinned (OpenSpec.ofChange claimOrderWrong)

/-- 'kedgelaw25.ClaimOpens': WHATEVER THE INPUT: true; the input reads as it did. -/
def claimOpensSpec : ChangeSpec := { name := "claimOpens", fn := fun _ => fun
  | [d] => { results := [.lit (.bool true)], args := [d] }
  | _ => none }
def claimOpensRow : OpenClaim := { program := "ytmakghcoehkphaagreat", sum := "dc9912f7c8822d518d3264b60bb35b24437881564c409624742beb354984bd52", func := "kedge/kedgelaw25.ClaimOpens", spec := "claimOpens", inPlace := ["internal/abi.NoEscape", "internal/bytealg.MakeNoZero", "internal/bytealg.abigen_runtime_cmpstring"], unfollowed := true, recurses := true, plainKeys := false, apart := false }
def ClaimOpensSaid : Prop := claimOpensRow.holds Tryz.pinned (OpenSpec.ofChange claimOpensSpec)

/-- ITS FALSE NEIGHBOUR: 'it returns false'. Refute it at one input. -/
def claimOpensWrong : ChangeSpec := { name := "claimOpens", fn := fun _ => fun
  | [d] => { results := [.lit (.bool false)], args := [d] }
  | _ => none }
def ClaimOpensWrongFalsely : Prop := claimOpensRow.holds Tryz.pinned (OpenSpec.ofChange claimOpensWrong)

/- THE SECOND FORM. 'bulk': how many values and letters a reading holds, each counted each time it is reached (what is shared counts as often as it is met; a slice's spare places count too). A statement '..UptoSaid' is the law's where the arguments, and the package variables that the reading takes, are together of bulk at most 1048576: NARROWER than '..Said'. Prove '..Said' where nothing that the law and all that it calls make is longer than what came in: it says more and counts as full. Else prove '..UptoSaid'. A law counts once. -/
mutual
def uptoBulk {H : Type} : DataW H → Nat
  | .lit (.string bytes) => bytes.length + 1
  | .lit _ => 1
  | .nil => 1
  | .ptr d => uptoBulk d + 1
  | .slice elems spare => uptoBulkAll elems + uptoBulkAll spare + 1
  | .agg parts => uptoBulkAll parts + 1
  | .iface _ d => uptoBulk d + 1
  | .map entries => uptoBulkEntries entries + 1
  | .held _ => 1
def uptoBulkAll {H : Type} : List (DataW H) → Nat
  | [] => 0
  | d :: r => uptoBulk d + uptoBulkAll r
def uptoBulkEntries {H : Type} : List (Lit × DataW H) → Nat
  | [] => 0
  | x :: r => uptoBulkEntry x + uptoBulkEntries r
def uptoBulkEntry {H : Type} : Lit × DataW H → Nat
  | (.string bytes, d) => bytes.length + uptoBulk d + 1
  | (_, d) => uptoBulk d + 1
 end
def uptoSmall : (H : Type) → List (DataW H) → Bool := fun _ ds => decide (uptoBulkAll ds ≤ 1048576)
def OpenSpec.upto (s : _root_.Go.ChangeSpec) : _root_.Go.OpenSpec := { _root_.Go.OpenSpec.ofChange s with cond := some uptoSmall }

/-- 'kedgelaw25.ClaimBuilds', WHERE WHAT IT READS IS OF BULK AT MOST 1048576: true; the input reads as it did. -/
def claimBuildsUptoRow : OpenClaim := { program := "ytmakghcoehkphaagreat", sum := "dc9912f7c8822d518d3264b60bb35b24437881564c409624742beb354984bd52", func := "kedge/kedgelaw25.ClaimBuilds", spec := "claimBuilds", inPlace := ["internal/abi.NoEscape", "internal/bytealg.MakeNoZero", "internal/bytealg.abigen_runtime_cmpstring"], unfollowed := true, recurses := true, plainKeys := false, apart := false, narrowed := true }
def ClaimBuildsUptoSaid : Prop := claimBuildsUptoRow.holds Tryz.pinned (OpenSpec.upto claimBuildsSpec)

/-- 'kedgelaw25.ClaimSizes', WHERE WHAT IT READS IS OF BULK AT MOST 1048576: true; the input reads as it did. -/
def claimSizesUptoRow : OpenClaim := { program := "ytmakghcoehkphaagreat", sum := "dc9912f7c8822d518d3264b60bb35b24437881564c409624742beb354984bd52", func := "kedge/kedgelaw25.ClaimSizes", spec := "claimSizes", inPlace := ["internal/abi.NoEscape", "internal/bytealg.MakeNoZero", "internal/bytealg.abigen_runtime_cmpstring"], unfollowed := true, recurses := true, plainKeys := false, apart := false, narrowed := true }
def ClaimSizesUptoSaid : Prop := claimSizesUptoRow.holds Tryz.pinned (OpenSpec.upto claimSizesSpec)

/-- 'kedgelaw25.ClaimAll', WHERE WHAT IT READS IS OF BULK AT MOST 1048576: true; the input reads as it did. -/
def claimAllUptoRow : OpenClaim := { program := "ytmakghcoehkphaagreat", sum := "dc9912f7c8822d518d3264b60bb35b24437881564c409624742beb354984bd52", func := "kedge/kedgelaw25.ClaimAll", spec := "claimAll", inPlace := ["internal/bytealg.abigen_runtime_cmpstring", "internal/abi.NoEscape", "internal/bytealg.MakeNoZero"], unfollowed := true, recurses := true, plainKeys := false, apart := false, narrowed := true }
def ClaimAllUptoSaid : Prop := claimAllUptoRow.holds Tryz.pinned (OpenSpec.upto claimAllSpec)

/-- 'kedgelaw25.ClaimGroups', WHERE WHAT IT READS IS OF BULK AT MOST 1048576: true; the input reads as it did. -/
def claimGroupsUptoRow : OpenClaim := { program := "ytmakghcoehkphaagreat", sum := "dc9912f7c8822d518d3264b60bb35b24437881564c409624742beb354984bd52", func := "kedge/kedgelaw25.ClaimGroups", spec := "claimGroups", inPlace := ["internal/bytealg.abigen_runtime_cmpstring", "internal/abi.NoEscape", "internal/bytealg.MakeNoZero"], unfollowed := true, recurses := true, plainKeys := false, apart := false, narrowed := true }
def ClaimGroupsUptoSaid : Prop := claimGroupsUptoRow.holds Tryz.pinned (OpenSpec.upto claimGroupsSpec)

/-- 'kedgelaw25.ClaimOrder', WHERE WHAT IT READS IS OF BULK AT MOST 1048576: true; the input reads as it did. -/
def claimOrderUptoRow : OpenClaim := { program := "ytmakghcoehkphaagreat", sum := "dc9912f7c8822d518d3264b60bb35b24437881564c409624742beb354984bd52", func := "kedge/kedgelaw25.ClaimOrder", spec := "claimOrder", inPlace := ["internal/bytealg.abigen_runtime_cmpstring", "internal/abi.NoEscape", "internal/bytealg.MakeNoZero"], unfollowed := true, recurses := true, plainKeys := false, apart := false, narrowed := true }
def ClaimOrderUptoSaid : Prop := claimOrderUptoRow.holds Tryz.pinned (OpenSpec.upto claimOrderSpec)

/-- 'kedgelaw25.ClaimOpens', WHERE WHAT IT READS IS OF BULK AT MOST 1048576: true; the input reads as it did. -/
def claimOpensUptoRow : OpenClaim := { program := "ytmakghcoehkphaagreat", sum := "dc9912f7c8822d518d3264b60bb35b24437881564c409624742beb354984bd52", func := "kedge/kedgelaw25.ClaimOpens", spec := "claimOpens", inPlace := ["internal/abi.NoEscape", "internal/bytealg.MakeNoZero", "internal/bytealg.abigen_runtime_cmpstring"], unfollowed := true, recurses := true, plainKeys := false, apart := false, narrowed := true }
def ClaimOpensUptoSaid : Prop := claimOpensUptoRow.holds Tryz.pinned (OpenSpec.upto claimOpensSpec)

end Rows
end Go.Proofs.YtmakghcoehkphaaGreat
