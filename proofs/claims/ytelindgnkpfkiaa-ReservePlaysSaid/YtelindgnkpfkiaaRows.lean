/-
  No cell of these rows narrows 'for every input' (looked for: loops, veiled, ifaces, maps, wideKeys, modest, calm, conditions, laid).
  DERIVED. THE GIVEN ROWS OF THIS SEAT. 3 by the template 'for every input the law returns true; each argument reads behind the call as it read before'; 0 by the template 'total and deterministic' (their statements: YtelindgnkpfkiaaTotals.lean).
  GIVEN WITH THE SEED: the statements are not yours to turn. If you find one false, say at which input.
  Laid BY PROGRAM, IN A SANDBOX (cutbox-rows.mjs): the forced cells as the released guide's own fill.sh prints them over the translation be28ae9a384f5a5f… (all of the seat's roots in one cut). By AI agents, Wed Nov 11 2026. No macro, syntax, notation, axiom, sorry.
-/
import Derived.Test.YtelindgnkpfkiaaChecked
import GoSem.Claim
import GoSem.ClaimJoined
import GoSem.ClaimMapViews
import Derived.JoinedTies
import Derived.KernelRfl
namespace Go.Proofs.Ytelindgnkpfkiaa
/- THE CELL 'sum', in the pinned program and in every row, IS THE sha256 OF THE DUMP (.gsa) THAT YtelindgnkpfkiaaProg.lean LOADS. Nothing in Lean hashes anything: it is a label: what it is worth is what the hold of that sum in a sandbox is worth. -/
noncomputable def Try.pinned : Pinned := { name := "ytelindgnkpfkiaa", sum := "be28ae9a384f5a5fc7f7e83b29f58a6a662a2e1f8ee093daa79f74c3be83a033", checked := Try.checked }
namespace Rows
def none {H : Type} : Left H := { results := [], args := [] }

/-- 'kedgelaw23.ReserveBack': WHATEVER THE INPUT: true; the input reads as it did. -/
def reserveBackSpec : ChangeSpec := { name := "reserveBack", fn := fun _ => fun
  | [d1, d2, d3] => { results := [.lit (.bool true)], args := [d1, d2, d3] }
  | _ => none }
def reserveBackRow : OpenClaim := { program := "ytelindgnkpfkiaa", sum := "be28ae9a384f5a5fc7f7e83b29f58a6a662a2e1f8ee093daa79f74c3be83a033", func := "kedge/kedgelaw23.ReserveBack", spec := "reserveBack", inPlace := ["internal/abi.NoEscape", "internal/bytealg.abigen_runtime_cmpstring"], unfollowed := true, recurses := true, plainKeys := false, apart := false }
def ReserveBackSaid : Prop := reserveBackRow.holds Try.pinned (OpenSpec.ofChange reserveBackSpec)

/-- ITS FALSE NEIGHBOUR: 'it returns false'. Refute it at one input. -/
def reserveBackWrong : ChangeSpec := { name := "reserveBack", fn := fun _ => fun
  | [d1, d2, d3] => { results := [.lit (.bool false)], args := [d1, d2, d3] }
  | _ => none }
def ReserveBackWrongFalsely : Prop := reserveBackRow.holds Try.pinned (OpenSpec.ofChange reserveBackWrong)

/-- 'kedgelaw23.ReserveOnce': WHATEVER THE INPUT: true; the input reads as it did. -/
def reserveOnceSpec : ChangeSpec := { name := "reserveOnce", fn := fun _ => fun
  | [d] => { results := [.lit (.bool true)], args := [d] }
  | _ => none }
def reserveOnceRow : OpenClaim := { program := "ytelindgnkpfkiaa", sum := "be28ae9a384f5a5fc7f7e83b29f58a6a662a2e1f8ee093daa79f74c3be83a033", func := "kedge/kedgelaw23.ReserveOnce", spec := "reserveOnce", inPlace := ["internal/abi.NoEscape", "internal/bytealg.abigen_runtime_cmpstring"], unfollowed := true, recurses := true, plainKeys := false, apart := false }
def ReserveOnceSaid : Prop := reserveOnceRow.holds Try.pinned (OpenSpec.ofChange reserveOnceSpec)

/-- ITS FALSE NEIGHBOUR: 'it returns false'. Refute it at one input. -/
def reserveOnceWrong : ChangeSpec := { name := "reserveOnce", fn := fun _ => fun
  | [d] => { results := [.lit (.bool false)], args := [d] }
  | _ => none }
def ReserveOnceWrongFalsely : Prop := reserveOnceRow.holds Try.pinned (OpenSpec.ofChange reserveOnceWrong)

/-- 'kedgelaw23.ReservePlays': WHATEVER THE INPUT: true; the input reads as it did. -/
def reservePlaysSpec : ChangeSpec := { name := "reservePlays", fn := fun _ => fun
  | [d1, d2] => { results := [.lit (.bool true)], args := [d1, d2] }
  | _ => none }
def reservePlaysRow : OpenClaim := { program := "ytelindgnkpfkiaa", sum := "be28ae9a384f5a5fc7f7e83b29f58a6a662a2e1f8ee093daa79f74c3be83a033", func := "kedge/kedgelaw23.ReservePlays", spec := "reservePlays", inPlace := ["internal/abi.NoEscape", "internal/bytealg.abigen_runtime_cmpstring"], unfollowed := true, recurses := true, plainKeys := false, apart := false }
def ReservePlaysSaid : Prop := reservePlaysRow.holds Try.pinned (OpenSpec.ofChange reservePlaysSpec)

/-- ITS FALSE NEIGHBOUR: 'it returns false'. Refute it at one input. -/
def reservePlaysWrong : ChangeSpec := { name := "reservePlays", fn := fun _ => fun
  | [d1, d2] => { results := [.lit (.bool false)], args := [d1, d2] }
  | _ => none }
def ReservePlaysWrongFalsely : Prop := reservePlaysRow.holds Try.pinned (OpenSpec.ofChange reservePlaysWrong)

/- THE SECOND FORM. 'bulk': how many values and letters a reading holds, each counted each time it is reached (what is shared counts as often as it is met; a slice's spare places count too). A statement '..UptoSaid' is the law's where the arguments, and the package variables that the reading takes, are together of bulk at most 1048576: NARROWER than '..Said'. Prove '..Said' where nothing that the law and all that it calls make is longer than what came in: it says more and counts as full. Else prove '..UptoSaid'. A law counts once. -/
mutual
def uptoBulk {H : Type} : DataW H → Nat
  | .lit (.string bytes) => bytes.length + 1
  | .lit _ => 1
  | .nil => 1
  | .ptr d => uptoBulk d + 1
  | .slice elems spare => uptoBulkAll elems + uptoBulkAll spare + 1
  | .agg parts => uptoBulkAll parts + 1
  | .iface _ d => uptoBulk d + 1
  | .map entries => uptoBulkEntries entries + 1
  | .held _ => 1
def uptoBulkAll {H : Type} : List (DataW H) → Nat
  | [] => 0
  | d :: r => uptoBulk d + uptoBulkAll r
def uptoBulkEntries {H : Type} : List (Lit × DataW H) → Nat
  | [] => 0
  | x :: r => uptoBulkEntry x + uptoBulkEntries r
def uptoBulkEntry {H : Type} : Lit × DataW H → Nat
  | (.string bytes, d) => bytes.length + uptoBulk d + 1
  | (_, d) => uptoBulk d + 1
 end
def uptoSmall : (H : Type) → List (DataW H) → Bool := fun _ ds => decide (uptoBulkAll ds ≤ 1048576)
def OpenSpec.upto (s : _root_.Go.ChangeSpec) : _root_.Go.OpenSpec := { _root_.Go.OpenSpec.ofChange s with cond := some uptoSmall }

/-- 'kedgelaw23.ReserveBack', WHERE WHAT IT READS IS OF BULK AT MOST 1048576: true; the input reads as it did. -/
def reserveBackUptoRow : OpenClaim := { program := "ytelindgnkpfkiaa", sum := "be28ae9a384f5a5fc7f7e83b29f58a6a662a2e1f8ee093daa79f74c3be83a033", func := "kedge/kedgelaw23.ReserveBack", spec := "reserveBack", inPlace := ["internal/abi.NoEscape", "internal/bytealg.abigen_runtime_cmpstring"], unfollowed := true, recurses := true, plainKeys := false, apart := false, narrowed := true }
def ReserveBackUptoSaid : Prop := reserveBackUptoRow.holds Try.pinned (OpenSpec.upto reserveBackSpec)

/-- 'kedgelaw23.ReserveOnce', WHERE WHAT IT READS IS OF BULK AT MOST 1048576: true; the input reads as it did. -/
def reserveOnceUptoRow : OpenClaim := { program := "ytelindgnkpfkiaa", sum := "be28ae9a384f5a5fc7f7e83b29f58a6a662a2e1f8ee093daa79f74c3be83a033", func := "kedge/kedgelaw23.ReserveOnce", spec := "reserveOnce", inPlace := ["internal/abi.NoEscape", "internal/bytealg.abigen_runtime_cmpstring"], unfollowed := true, recurses := true, plainKeys := false, apart := false, narrowed := true }
def ReserveOnceUptoSaid : Prop := reserveOnceUptoRow.holds Try.pinned (OpenSpec.upto reserveOnceSpec)

/-- 'kedgelaw23.ReservePlays', WHERE WHAT IT READS IS OF BULK AT MOST 1048576: true; the input reads as it did. -/
def reservePlaysUptoRow : OpenClaim := { program := "ytelindgnkpfkiaa", sum := "be28ae9a384f5a5fc7f7e83b29f58a6a662a2e1f8ee093daa79f74c3be83a033", func := "kedge/kedgelaw23.ReservePlays", spec := "reservePlays", inPlace := ["internal/abi.NoEscape", "internal/bytealg.abigen_runtime_cmpstring"], unfollowed := true, recurses := true, plainKeys := false, apart := false, narrowed := true }
def ReservePlaysUptoSaid : Prop := reservePlaysUptoRow.holds Try.pinned (OpenSpec.upto reservePlaysSpec)

end Rows
end Go.Proofs.Ytelindgnkpfkiaa
