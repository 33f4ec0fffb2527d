/-
  No cell of these rows narrows 'for every input' (looked for: loops, veiled, ifaces, maps, wideKeys, modest, calm, conditions, laid).
  DERIVED. THE GIVEN ROWS OF THIS SEAT. 9 by the template 'for every input the law returns true; each argument reads behind the call as it read before'; 0 by the template 'total and deterministic' (their statements: YtmcknjldimnaoaaTotals.lean).
  GIVEN WITH THE SEED: the statements are not yours to turn. If you find one false, say at which input.
  Laid BY PROGRAM, IN A SANDBOX (cutbox-rows.mjs): the forced cells as the released guide's own fill.sh prints them over the translation 3ad2b83b31b67c82… (all of the seat's roots in one cut). By AI agents, Wed Nov 11 2026. No macro, syntax, notation, axiom, sorry.
-/
import Derived.Test.YtmcknjldimnaoaaChecked
import GoSem.Claim
import GoSem.ClaimJoined
import GoSem.ClaimMapViews
import Derived.JoinedTies
import Derived.KernelRfl
namespace Go.Proofs.Ytmcknjldimnaoaa
/- THE CELL 'sum', in the pinned program and in every row, IS THE sha256 OF THE DUMP (.gsa) THAT YtmcknjldimnaoaaProg.lean LOADS. Nothing in Lean hashes anything: it is a label: what it is worth is what the hold of that sum in a sandbox is worth. -/
noncomputable def Try.pinned : Pinned := { name := "ytmcknjldimnaoaa", sum := "3ad2b83b31b67c82019f82b0dc384fc7acfc6f708c4dd414d354868811090db9", checked := Try.checked }
namespace Rows
def none {H : Type} : Left H := { results := [], args := [] }

/-- 'kedgelaw07.IdentPays': WHATEVER THE INPUT: true; the input reads as it did. -/
def identPaysSpec : ChangeSpec := { name := "identPays", fn := fun _ => fun
  | [d1, d2] => { results := [.lit (.bool true)], args := [d1, d2] }
  | _ => none }
def identPaysRow : OpenClaim := { program := "ytmcknjldimnaoaa", sum := "3ad2b83b31b67c82019f82b0dc384fc7acfc6f708c4dd414d354868811090db9", func := "kedge/kedgelaw07.IdentPays", spec := "identPays", inPlace := ["internal/abi.NoEscape", "internal/bytealg.MakeNoZero"], unfollowed := true, recurses := true, plainKeys := false, apart := false }
def IdentPaysSaid : Prop := identPaysRow.holds Try.pinned (OpenSpec.ofChange identPaysSpec)

/-- ITS FALSE NEIGHBOUR: 'it returns false'. Refute it at one input. -/
def identPaysWrong : ChangeSpec := { name := "identPays", fn := fun _ => fun
  | [d1, d2] => { results := [.lit (.bool false)], args := [d1, d2] }
  | _ => none }
def IdentPaysWrongFalsely : Prop := identPaysRow.holds Try.pinned (OpenSpec.ofChange identPaysWrong)

/-- 'kedgelaw07.IdentTells': WHATEVER THE INPUT: true; the input reads as it did. -/
def identTellsSpec : ChangeSpec := { name := "identTells", fn := fun _ => fun
  | [d] => { results := [.lit (.bool true)], args := [d] }
  | _ => none }
def identTellsRow : OpenClaim := { program := "ytmcknjldimnaoaa", sum := "3ad2b83b31b67c82019f82b0dc384fc7acfc6f708c4dd414d354868811090db9", func := "kedge/kedgelaw07.IdentTells", spec := "identTells", inPlace := ["internal/abi.NoEscape", "internal/bytealg.MakeNoZero"], unfollowed := true, recurses := true, plainKeys := false, apart := false }
def IdentTellsSaid : Prop := identTellsRow.holds Try.pinned (OpenSpec.ofChange identTellsSpec)

/-- ITS FALSE NEIGHBOUR: 'it returns false'. Refute it at one input. -/
def identTellsWrong : ChangeSpec := { name := "identTells", fn := fun _ => fun
  | [d] => { results := [.lit (.bool false)], args := [d] }
  | _ => none }
def IdentTellsWrongFalsely : Prop := identTellsRow.holds Try.pinned (OpenSpec.ofChange identTellsWrong)

/-- 'kedgelaw07.IdentSame': WHATEVER THE INPUT: true; the input reads as it did. -/
def identSameSpec : ChangeSpec := { name := "identSame", fn := fun _ => fun
  | [d1, d2] => { results := [.lit (.bool true)], args := [d1, d2] }
  | _ => none }
def identSameRow : OpenClaim := { program := "ytmcknjldimnaoaa", sum := "3ad2b83b31b67c82019f82b0dc384fc7acfc6f708c4dd414d354868811090db9", func := "kedge/kedgelaw07.IdentSame", spec := "identSame", inPlace := ["internal/abi.NoEscape", "internal/bytealg.MakeNoZero"], unfollowed := true, recurses := true, plainKeys := false, apart := false }
def IdentSameSaid : Prop := identSameRow.holds Try.pinned (OpenSpec.ofChange identSameSpec)

/-- ITS FALSE NEIGHBOUR: 'it returns false'. Refute it at one input. -/
def identSameWrong : ChangeSpec := { name := "identSame", fn := fun _ => fun
  | [d1, d2] => { results := [.lit (.bool false)], args := [d1, d2] }
  | _ => none }
def IdentSameWrongFalsely : Prop := identSameRow.holds Try.pinned (OpenSpec.ofChange identSameWrong)

/-- 'kedgelaw06.WireDecodes': WHATEVER THE INPUT: true; the input reads as it did. -/
def wireDecodesSpec : ChangeSpec := { name := "wireDecodes", fn := fun _ => fun
  | [d] => { results := [.lit (.bool true)], args := [d] }
  | _ => none }
def wireDecodesRow : OpenClaim := { program := "ytmcknjldimnaoaa", sum := "3ad2b83b31b67c82019f82b0dc384fc7acfc6f708c4dd414d354868811090db9", func := "kedge/kedgelaw06.WireDecodes", spec := "wireDecodes", inPlace := ["internal/abi.NoEscape", "internal/bytealg.MakeNoZero"], unfollowed := true, recurses := true, plainKeys := false, apart := false }
def WireDecodesSaid : Prop := wireDecodesRow.holds Try.pinned (OpenSpec.ofChange wireDecodesSpec)

/-- ITS FALSE NEIGHBOUR: 'it returns false'. Refute it at one input. -/
def wireDecodesWrong : ChangeSpec := { name := "wireDecodes", fn := fun _ => fun
  | [d] => { results := [.lit (.bool false)], args := [d] }
  | _ => none }
def WireDecodesWrongFalsely : Prop := wireDecodesRow.holds Try.pinned (OpenSpec.ofChange wireDecodesWrong)

/-- 'kedgelaw06.WireAgain': WHATEVER THE INPUT: true; the input reads as it did. -/
def wireAgainSpec : ChangeSpec := { name := "wireAgain", fn := fun _ => fun
  | [d] => { results := [.lit (.bool true)], args := [d] }
  | _ => none }
def wireAgainRow : OpenClaim := { program := "ytmcknjldimnaoaa", sum := "3ad2b83b31b67c82019f82b0dc384fc7acfc6f708c4dd414d354868811090db9", func := "kedge/kedgelaw06.WireAgain", spec := "wireAgain", inPlace := ["internal/abi.NoEscape", "internal/bytealg.MakeNoZero"], unfollowed := true, recurses := true, plainKeys := false, apart := false }
def WireAgainSaid : Prop := wireAgainRow.holds Try.pinned (OpenSpec.ofChange wireAgainSpec)

/-- ITS FALSE NEIGHBOUR: 'it returns false'. Refute it at one input. -/
def wireAgainWrong : ChangeSpec := { name := "wireAgain", fn := fun _ => fun
  | [d] => { results := [.lit (.bool false)], args := [d] }
  | _ => none }
def WireAgainWrongFalsely : Prop := wireAgainRow.holds Try.pinned (OpenSpec.ofChange wireAgainWrong)

/-- 'kedgelaw06.WireCuts': WHATEVER THE INPUT: true; the input reads as it did. -/
def wireCutsSpec : ChangeSpec := { name := "wireCuts", fn := fun _ => fun
  | [d1, d2, d3] => { results := [.lit (.bool true)], args := [d1, d2, d3] }
  | _ => none }
def wireCutsRow : OpenClaim := { program := "ytmcknjldimnaoaa", sum := "3ad2b83b31b67c82019f82b0dc384fc7acfc6f708c4dd414d354868811090db9", func := "kedge/kedgelaw06.WireCuts", spec := "wireCuts", inPlace := ["internal/abi.NoEscape", "internal/bytealg.MakeNoZero"], unfollowed := true, recurses := true, plainKeys := false, apart := false }
def WireCutsSaid : Prop := wireCutsRow.holds Try.pinned (OpenSpec.ofChange wireCutsSpec)

/-- ITS FALSE NEIGHBOUR: 'it returns false'. Refute it at one input. -/
def wireCutsWrong : ChangeSpec := { name := "wireCuts", fn := fun _ => fun
  | [d1, d2, d3] => { results := [.lit (.bool false)], args := [d1, d2, d3] }
  | _ => none }
def WireCutsWrongFalsely : Prop := wireCutsRow.holds Try.pinned (OpenSpec.ofChange wireCutsWrong)

/-- 'kedgelaw06.WireEncodes': WHATEVER THE INPUT: true; the input reads as it did. -/
def wireEncodesSpec : ChangeSpec := { name := "wireEncodes", fn := fun _ => fun
  | [d] => { results := [.lit (.bool true)], args := [d] }
  | _ => none }
def wireEncodesRow : OpenClaim := { program := "ytmcknjldimnaoaa", sum := "3ad2b83b31b67c82019f82b0dc384fc7acfc6f708c4dd414d354868811090db9", func := "kedge/kedgelaw06.WireEncodes", spec := "wireEncodes", inPlace := ["internal/abi.NoEscape", "internal/bytealg.MakeNoZero"], unfollowed := true, recurses := true, plainKeys := false, apart := false }
def WireEncodesSaid : Prop := wireEncodesRow.holds Try.pinned (OpenSpec.ofChange wireEncodesSpec)

/-- ITS FALSE NEIGHBOUR: 'it returns false'. Refute it at one input. -/
def wireEncodesWrong : ChangeSpec := { name := "wireEncodes", fn := fun _ => fun
  | [d] => { results := [.lit (.bool false)], args := [d] }
  | _ => none }
def WireEncodesWrongFalsely : Prop := wireEncodesRow.holds Try.pinned (OpenSpec.ofChange wireEncodesWrong)

/-- 'kedgelaw06.WireBack': WHATEVER THE INPUT: true; the input reads as it did. -/
def wireBackSpec : ChangeSpec := { name := "wireBack", fn := fun _ => fun
  | [d] => { results := [.lit (.bool true)], args := [d] }
  | _ => none }
def wireBackRow : OpenClaim := { program := "ytmcknjldimnaoaa", sum := "3ad2b83b31b67c82019f82b0dc384fc7acfc6f708c4dd414d354868811090db9", func := "kedge/kedgelaw06.WireBack", spec := "wireBack", inPlace := ["internal/abi.NoEscape", "internal/bytealg.MakeNoZero"], unfollowed := true, recurses := true, plainKeys := false, apart := false }
def WireBackSaid : Prop := wireBackRow.holds Try.pinned (OpenSpec.ofChange wireBackSpec)

/-- ITS FALSE NEIGHBOUR: 'it returns false'. Refute it at one input. -/
def wireBackWrong : ChangeSpec := { name := "wireBack", fn := fun _ => fun
  | [d] => { results := [.lit (.bool false)], args := [d] }
  | _ => none }
def WireBackWrongFalsely : Prop := wireBackRow.holds Try.pinned (OpenSpec.ofChange wireBackWrong)

/-- 'kedgelaw07.IdentGrows': WHATEVER THE INPUT: true; the input reads as it did. -/
def identGrowsSpec : ChangeSpec := { name := "identGrows", fn := fun _ => fun
  | [d1, d2] => { results := [.lit (.bool true)], args := [d1, d2] }
  | _ => none }
def identGrowsRow : OpenClaim := { program := "ytmcknjldimnaoaa", sum := "3ad2b83b31b67c82019f82b0dc384fc7acfc6f708c4dd414d354868811090db9", func := "kedge/kedgelaw07.IdentGrows", spec := "identGrows", inPlace := ["internal/abi.NoEscape", "internal/bytealg.MakeNoZero"], unfollowed := true, recurses := true, plainKeys := false, apart := false }
def IdentGrowsSaid : Prop := identGrowsRow.holds Try.pinned (OpenSpec.ofChange identGrowsSpec)

/-- ITS FALSE NEIGHBOUR: 'it returns false'. Refute it at one input. -/
def identGrowsWrong : ChangeSpec := { name := "identGrows", fn := fun _ => fun
  | [d1, d2] => { results := [.lit (.bool false)], args := [d1, d2] }
  | _ => none }
def IdentGrowsWrongFalsely : Prop := identGrowsRow.holds Try.pinned (OpenSpec.ofChange identGrowsWrong)

/- THE SECOND FORM. 'bulk': how many values and letters a reading holds, each counted each time it is reached (what is shared counts as often as it is met; a slice's spare places count too). A statement '..UptoSaid' is the law's where the arguments, and the package variables that the reading takes, are together of bulk at most 1048576: NARROWER than '..Said'. Prove '..Said' where nothing that the law and all that it calls make is longer than what came in: it says more and counts as full. Else prove '..UptoSaid'. A law counts once. -/
mutual
def uptoBulk {H : Type} : DataW H → Nat
  | .lit (.string bytes) => bytes.length + 1
  | .lit _ => 1
  | .nil => 1
  | .ptr d => uptoBulk d + 1
  | .slice elems spare => uptoBulkAll elems + uptoBulkAll spare + 1
  | .agg parts => uptoBulkAll parts + 1
  | .iface _ d => uptoBulk d + 1
  | .map entries => uptoBulkEntries entries + 1
  | .held _ => 1
def uptoBulkAll {H : Type} : List (DataW H) → Nat
  | [] => 0
  | d :: r => uptoBulk d + uptoBulkAll r
def uptoBulkEntries {H : Type} : List (Lit × DataW H) → Nat
  | [] => 0
  | x :: r => uptoBulkEntry x + uptoBulkEntries r
def uptoBulkEntry {H : Type} : Lit × DataW H → Nat
  | (.string bytes, d) => bytes.length + uptoBulk d + 1
  | (_, d) => uptoBulk d + 1
 end
def uptoSmall : (H : Type) → List (DataW H) → Bool := fun _ ds => decide (uptoBulkAll ds ≤ 1048576)
def OpenSpec.upto (s : _root_.Go.ChangeSpec) : _root_.Go.OpenSpec := { _root_.Go.OpenSpec.ofChange s with cond := some uptoSmall }

/-- 'kedgelaw07.IdentPays', WHERE WHAT IT READS IS OF BULK AT MOST 1048576: true; the input reads as it did. -/
def identPaysUptoRow : OpenClaim := { program := "ytmcknjldimnaoaa", sum := "3ad2b83b31b67c82019f82b0dc384fc7acfc6f708c4dd414d354868811090db9", func := "kedge/kedgelaw07.IdentPays", spec := "identPays", inPlace := ["internal/abi.NoEscape", "internal/bytealg.MakeNoZero"], unfollowed := true, recurses := true, plainKeys := false, apart := false, narrowed := true }
def IdentPaysUptoSaid : Prop := identPaysUptoRow.holds Try.pinned (OpenSpec.upto identPaysSpec)

/-- 'kedgelaw07.IdentTells', WHERE WHAT IT READS IS OF BULK AT MOST 1048576: true; the input reads as it did. -/
def identTellsUptoRow : OpenClaim := { program := "ytmcknjldimnaoaa", sum := "3ad2b83b31b67c82019f82b0dc384fc7acfc6f708c4dd414d354868811090db9", func := "kedge/kedgelaw07.IdentTells", spec := "identTells", inPlace := ["internal/abi.NoEscape", "internal/bytealg.MakeNoZero"], unfollowed := true, recurses := true, plainKeys := false, apart := false, narrowed := true }
def IdentTellsUptoSaid : Prop := identTellsUptoRow.holds Try.pinned (OpenSpec.upto identTellsSpec)

/-- 'kedgelaw07.IdentSame', WHERE WHAT IT READS IS OF BULK AT MOST 1048576: true; the input reads as it did. -/
def identSameUptoRow : OpenClaim := { program := "ytmcknjldimnaoaa", sum := "3ad2b83b31b67c82019f82b0dc384fc7acfc6f708c4dd414d354868811090db9", func := "kedge/kedgelaw07.IdentSame", spec := "identSame", inPlace := ["internal/abi.NoEscape", "internal/bytealg.MakeNoZero"], unfollowed := true, recurses := true, plainKeys := false, apart := false, narrowed := true }
def IdentSameUptoSaid : Prop := identSameUptoRow.holds Try.pinned (OpenSpec.upto identSameSpec)

/-- 'kedgelaw06.WireDecodes', WHERE WHAT IT READS IS OF BULK AT MOST 1048576: true; the input reads as it did. -/
def wireDecodesUptoRow : OpenClaim := { program := "ytmcknjldimnaoaa", sum := "3ad2b83b31b67c82019f82b0dc384fc7acfc6f708c4dd414d354868811090db9", func := "kedge/kedgelaw06.WireDecodes", spec := "wireDecodes", inPlace := ["internal/abi.NoEscape", "internal/bytealg.MakeNoZero"], unfollowed := true, recurses := true, plainKeys := false, apart := false, narrowed := true }
def WireDecodesUptoSaid : Prop := wireDecodesUptoRow.holds Try.pinned (OpenSpec.upto wireDecodesSpec)

/-- 'kedgelaw06.WireAgain', WHERE WHAT IT READS IS OF BULK AT MOST 1048576: true; the input reads as it did. -/
def wireAgainUptoRow : OpenClaim := { program := "ytmcknjldimnaoaa", sum := "3ad2b83b31b67c82019f82b0dc384fc7acfc6f708c4dd414d354868811090db9", func := "kedge/kedgelaw06.WireAgain", spec := "wireAgain", inPlace := ["internal/abi.NoEscape", "internal/bytealg.MakeNoZero"], unfollowed := true, recurses := true, plainKeys := false, apart := false, narrowed := true }
def WireAgainUptoSaid : Prop := wireAgainUptoRow.holds Try.pinned (OpenSpec.upto wireAgainSpec)

/-- 'kedgelaw06.WireCuts', WHERE WHAT IT READS IS OF BULK AT MOST 1048576: true; the input reads as it did. -/
def wireCutsUptoRow : OpenClaim := { program := "ytmcknjldimnaoaa", sum := "3ad2b83b31b67c82019f82b0dc384fc7acfc6f708c4dd414d354868811090db9", func := "kedge/kedgelaw06.WireCuts", spec := "wireCuts", inPlace := ["internal/abi.NoEscape", "internal/bytealg.MakeNoZero"], unfollowed := true, recurses := true, plainKeys := false, apart := false, narrowed := true }
def WireCutsUptoSaid : Prop := wireCutsUptoRow.holds Try.pinned (OpenSpec.upto wireCutsSpec)

/-- 'kedgelaw06.WireEncodes', WHERE WHAT IT READS IS OF BULK AT MOST 1048576: true; the input reads as it did. -/
def wireEncodesUptoRow : OpenClaim := { program := "ytmcknjldimnaoaa", sum := "3ad2b83b31b67c82019f82b0dc384fc7acfc6f708c4dd414d354868811090db9", func := "kedge/kedgelaw06.WireEncodes", spec := "wireEncodes", inPlace := ["internal/abi.NoEscape", "internal/bytealg.MakeNoZero"], unfollowed := true, recurses := true, plainKeys := false, apart := false, narrowed := true }
def WireEncodesUptoSaid : Prop := wireEncodesUptoRow.holds Try.pinned (OpenSpec.upto wireEncodesSpec)

/-- 'kedgelaw06.WireBack', WHERE WHAT IT READS IS OF BULK AT MOST 1048576: true; the input reads as it did. -/
def wireBackUptoRow : OpenClaim := { program := "ytmcknjldimnaoaa", sum := "3ad2b83b31b67c82019f82b0dc384fc7acfc6f708c4dd414d354868811090db9", func := "kedge/kedgelaw06.WireBack", spec := "wireBack", inPlace := ["internal/abi.NoEscape", "internal/bytealg.MakeNoZero"], unfollowed := true, recurses := true, plainKeys := false, apart := false, narrowed := true }
def WireBackUptoSaid : Prop := wireBackUptoRow.holds Try.pinned (OpenSpec.upto wireBackSpec)

/-- 'kedgelaw07.IdentGrows', WHERE WHAT IT READS IS OF BULK AT MOST 1048576: true; the input reads as it did. -/
def identGrowsUptoRow : OpenClaim := { program := "ytmcknjldimnaoaa", sum := "3ad2b83b31b67c82019f82b0dc384fc7acfc6f708c4dd414d354868811090db9", func := "kedge/kedgelaw07.IdentGrows", spec := "identGrows", inPlace := ["internal/abi.NoEscape", "internal/bytealg.MakeNoZero"], unfollowed := true, recurses := true, plainKeys := false, apart := false, narrowed := true }
def IdentGrowsUptoSaid : Prop := identGrowsUptoRow.holds Try.pinned (OpenSpec.upto identGrowsSpec)

end Rows
end Go.Proofs.Ytmcknjldimnaoaa
