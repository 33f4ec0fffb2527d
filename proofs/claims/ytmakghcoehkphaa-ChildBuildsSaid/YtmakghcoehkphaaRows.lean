/-
  No cell of these rows narrows 'for every input' (looked for: loops, veiled, ifaces, maps, wideKeys, modest, calm, conditions, laid).
  DERIVED. THE GIVEN ROWS OF THIS SEAT. 4 by the template 'for every input the law returns true; each argument reads behind the call as it read before'; 0 by the template 'total and deterministic' (their statements: YtmakghcoehkphaaTotals.lean).
  GIVEN WITH THE SEED: the statements are not yours to turn. If you find one false, say at which input.
  Laid BY PROGRAM, IN A SANDBOX (cutbox-rows.mjs): the forced cells as the released guide's own fill.sh prints them over the translation 3857a764fc06d102… (all of the seat's roots in one cut). By AI agents, Wed Nov 11 2026. No macro, syntax, notation, axiom, sorry.
-/
import Derived.Test.YtmakghcoehkphaaChecked
import GoSem.Claim
import GoSem.ClaimJoined
import GoSem.ClaimMapViews
import Derived.JoinedTies
import Derived.KernelRfl
namespace Go.Proofs.Ytmakghcoehkphaa
/- THE CELL 'sum', in the pinned program and in every row, IS THE sha256 OF THE DUMP (.gsa) THAT YtmakghcoehkphaaProg.lean LOADS. Nothing in Lean hashes anything: it is a label: what it is worth is what the hold of that sum in a sandbox is worth. -/
noncomputable def Try.pinned : Pinned := { name := "ytmakghcoehkphaa", sum := "3857a764fc06d102c7296ec1eed7705926d4a2829a3eaf3c65f25eeb79db26d1", checked := Try.checked }
namespace Rows
def none {H : Type} : Left H := { results := [], args := [] }

/-- 'kedgelaw24.ChildBuilds': WHATEVER THE INPUT: true; the input reads as it did. -/
def childBuildsSpec : ChangeSpec := { name := "childBuilds", fn := fun _ => fun
  | [d] => { results := [.lit (.bool true)], args := [d] }
  | _ => none }
def childBuildsRow : OpenClaim := { program := "ytmakghcoehkphaa", sum := "3857a764fc06d102c7296ec1eed7705926d4a2829a3eaf3c65f25eeb79db26d1", func := "kedge/kedgelaw24.ChildBuilds", spec := "childBuilds", inPlace := ["internal/abi.NoEscape", "internal/bytealg.MakeNoZero"], unfollowed := true, recurses := true, plainKeys := false, apart := false }
def ChildBuildsSaid : Prop := childBuildsRow.holds Try.pinned (OpenSpec.ofChange childBuildsSpec)

/-- ITS FALSE NEIGHBOUR: 'it returns false'. Refute it at one input. -/
def childBuildsWrong : ChangeSpec := { name := "childBuilds", fn := fun _ => fun
  | [d] => { results := [.lit (.bool false)], args := [d] }
  | _ => none }
def ChildBuildsWrongFalsely : Prop := childBuildsRow.holds Try.pinned (OpenSpec.ofChange childBuildsWrong)

/-- 'kedgelaw24.ChildBids': WHATEVER THE INPUT: true; the input reads as it did. -/
def childBidsSpec : ChangeSpec := { name := "childBids", fn := fun _ => fun
  | [d1, d2, d3] => { results := [.lit (.bool true)], args := [d1, d2, d3] }
  | _ => none }
def childBidsRow : OpenClaim := { program := "ytmakghcoehkphaa", sum := "3857a764fc06d102c7296ec1eed7705926d4a2829a3eaf3c65f25eeb79db26d1", func := "kedge/kedgelaw24.ChildBids", spec := "childBids", inPlace := ["internal/abi.NoEscape", "internal/bytealg.MakeNoZero"], unfollowed := true, recurses := true, plainKeys := false, apart := false }
def ChildBidsSaid : Prop := childBidsRow.holds Try.pinned (OpenSpec.ofChange childBidsSpec)

/-- ITS FALSE NEIGHBOUR: 'it returns false'. Refute it at one input. -/
def childBidsWrong : ChangeSpec := { name := "childBids", fn := fun _ => fun
  | [d1, d2, d3] => { results := [.lit (.bool false)], args := [d1, d2, d3] }
  | _ => none }
def ChildBidsWrongFalsely : Prop := childBidsRow.holds Try.pinned (OpenSpec.ofChange childBidsWrong)

/-- 'kedgelaw24.ChildPays': WHATEVER THE INPUT: true; the input reads as it did. -/
def childPaysSpec : ChangeSpec := { name := "childPays", fn := fun _ => fun
  | [d1, d2, d3] => { results := [.lit (.bool true)], args := [d1, d2, d3] }
  | _ => none }
def childPaysRow : OpenClaim := { program := "ytmakghcoehkphaa", sum := "3857a764fc06d102c7296ec1eed7705926d4a2829a3eaf3c65f25eeb79db26d1", func := "kedge/kedgelaw24.ChildPays", spec := "childPays", inPlace := ["internal/abi.NoEscape", "internal/bytealg.MakeNoZero"], unfollowed := true, recurses := true, plainKeys := false, apart := false }
def ChildPaysSaid : Prop := childPaysRow.holds Try.pinned (OpenSpec.ofChange childPaysSpec)

/-- ITS FALSE NEIGHBOUR: 'it returns false'. Refute it at one input. -/
def childPaysWrong : ChangeSpec := { name := "childPays", fn := fun _ => fun
  | [d1, d2, d3] => { results := [.lit (.bool false)], args := [d1, d2, d3] }
  | _ => none }
def ChildPaysWrongFalsely : Prop := childPaysRow.holds Try.pinned (OpenSpec.ofChange childPaysWrong)

/-- 'kedgelaw24.ChildSizes': WHATEVER THE INPUT: true; the input reads as it did. -/
def childSizesSpec : ChangeSpec := { name := "childSizes", fn := fun _ => fun
  | [d] => { results := [.lit (.bool true)], args := [d] }
  | _ => none }
def childSizesRow : OpenClaim := { program := "ytmakghcoehkphaa", sum := "3857a764fc06d102c7296ec1eed7705926d4a2829a3eaf3c65f25eeb79db26d1", func := "kedge/kedgelaw24.ChildSizes", spec := "childSizes", inPlace := ["internal/abi.NoEscape", "internal/bytealg.MakeNoZero"], unfollowed := true, recurses := true, plainKeys := false, apart := false }
def ChildSizesSaid : Prop := childSizesRow.holds Try.pinned (OpenSpec.ofChange childSizesSpec)

/-- ITS FALSE NEIGHBOUR: 'it returns false'. Refute it at one input. -/
def childSizesWrong : ChangeSpec := { name := "childSizes", fn := fun _ => fun
  | [d] => { results := [.lit (.bool false)], args := [d] }
  | _ => none }
def ChildSizesWrongFalsely : Prop := childSizesRow.holds Try.pinned (OpenSpec.ofChange childSizesWrong)

/- THE SECOND FORM. 'bulk': how many values and letters a reading holds, each counted each time it is reached (what is shared counts as often as it is met; a slice's spare places count too). A statement '..UptoSaid' is the law's where the arguments, and the package variables that the reading takes, are together of bulk at most 1048576: NARROWER than '..Said'. Prove '..Said' where nothing that the law and all that it calls make is longer than what came in: it says more and counts as full. Else prove '..UptoSaid'. A law counts once. -/
mutual
def uptoBulk {H : Type} : DataW H → Nat
  | .lit (.string bytes) => bytes.length + 1
  | .lit _ => 1
  | .nil => 1
  | .ptr d => uptoBulk d + 1
  | .slice elems spare => uptoBulkAll elems + uptoBulkAll spare + 1
  | .agg parts => uptoBulkAll parts + 1
  | .iface _ d => uptoBulk d + 1
  | .map entries => uptoBulkEntries entries + 1
  | .held _ => 1
def uptoBulkAll {H : Type} : List (DataW H) → Nat
  | [] => 0
  | d :: r => uptoBulk d + uptoBulkAll r
def uptoBulkEntries {H : Type} : List (Lit × DataW H) → Nat
  | [] => 0
  | x :: r => uptoBulkEntry x + uptoBulkEntries r
def uptoBulkEntry {H : Type} : Lit × DataW H → Nat
  | (.string bytes, d) => bytes.length + uptoBulk d + 1
  | (_, d) => uptoBulk d + 1
 end
def uptoSmall : (H : Type) → List (DataW H) → Bool := fun _ ds => decide (uptoBulkAll ds ≤ 1048576)
def OpenSpec.upto (s : _root_.Go.ChangeSpec) : _root_.Go.OpenSpec := { _root_.Go.OpenSpec.ofChange s with cond := some uptoSmall }

/-- 'kedgelaw24.ChildBuilds', WHERE WHAT IT READS IS OF BULK AT MOST 1048576: true; the input reads as it did. -/
def childBuildsUptoRow : OpenClaim := { program := "ytmakghcoehkphaa", sum := "3857a764fc06d102c7296ec1eed7705926d4a2829a3eaf3c65f25eeb79db26d1", func := "kedge/kedgelaw24.ChildBuilds", spec := "childBuilds", inPlace := ["internal/abi.NoEscape", "internal/bytealg.MakeNoZero"], unfollowed := true, recurses := true, plainKeys := false, apart := false, narrowed := true }
def ChildBuildsUptoSaid : Prop := childBuildsUptoRow.holds Try.pinned (OpenSpec.upto childBuildsSpec)

/-- 'kedgelaw24.ChildBids', WHERE WHAT IT READS IS OF BULK AT MOST 1048576: true; the input reads as it did. -/
def childBidsUptoRow : OpenClaim := { program := "ytmakghcoehkphaa", sum := "3857a764fc06d102c7296ec1eed7705926d4a2829a3eaf3c65f25eeb79db26d1", func := "kedge/kedgelaw24.ChildBids", spec := "childBids", inPlace := ["internal/abi.NoEscape", "internal/bytealg.MakeNoZero"], unfollowed := true, recurses := true, plainKeys := false, apart := false, narrowed := true }
def ChildBidsUptoSaid : Prop := childBidsUptoRow.holds Try.pinned (OpenSpec.upto childBidsSpec)

/-- 'kedgelaw24.ChildPays', WHERE WHAT IT READS IS OF BULK AT MOST 1048576: true; the input reads as it did. -/
def childPaysUptoRow : OpenClaim := { program := "ytmakghcoehkphaa", sum := "3857a764fc06d102c7296ec1eed7705926d4a2829a3eaf3c65f25eeb79db26d1", func := "kedge/kedgelaw24.ChildPays", spec := "childPays", inPlace := ["internal/abi.NoEscape", "internal/bytealg.MakeNoZero"], unfollowed := true, recurses := true, plainKeys := false, apart := false, narrowed := true }
def ChildPaysUptoSaid : Prop := childPaysUptoRow.holds Try.pinned (OpenSpec.upto childPaysSpec)

/-- 'kedgelaw24.ChildSizes', WHERE WHAT IT READS IS OF BULK AT MOST 1048576: true; the input reads as it did. -/
def childSizesUptoRow : OpenClaim := { program := "ytmakghcoehkphaa", sum := "3857a764fc06d102c7296ec1eed7705926d4a2829a3eaf3c65f25eeb79db26d1", func := "kedge/kedgelaw24.ChildSizes", spec := "childSizes", inPlace := ["internal/abi.NoEscape", "internal/bytealg.MakeNoZero"], unfollowed := true, recurses := true, plainKeys := false, apart := false, narrowed := true }
def ChildSizesUptoSaid : Prop := childSizesUptoRow.holds Try.pinned (OpenSpec.upto childSizesSpec)

end Rows
end Go.Proofs.Ytmakghcoehkphaa
