/-
  No cell of these rows narrows 'for every input' (looked for: loops, veiled, ifaces, maps, wideKeys, modest, calm, conditions, laid).
  DERIVED. THE GIVEN ROWS OF THIS SEAT. 6 by the template 'for every input the law returns true; each argument reads behind the call as it read before'; 0 by the template 'total and deterministic' (their statements: YtiicigpndagecaaTotals.lean).
  GIVEN WITH THE SEED: the statements are not yours to turn. If you find one false, say at which input.
  Laid BY PROGRAM, IN A SANDBOX (cutbox-rows.mjs): the forced cells as the released guide's own fill.sh prints them over the translation d76506db1eec3550… (all of the seat's roots in one cut). By AI agents, Wed Nov 11 2026. No macro, syntax, notation, axiom, sorry.
-/
import Derived.Test.YtiicigpndagecaaChecked
import GoSem.Claim
import GoSem.ClaimJoined
import GoSem.ClaimMapViews
import Derived.JoinedTies
import Derived.KernelRfl
namespace Go.Proofs.Ytiicigpndagecaa
/- THE CELL 'sum', in the pinned program and in every row, IS THE sha256 OF THE DUMP (.gsa) THAT YtiicigpndagecaaProg.lean LOADS. Nothing in Lean hashes anything: it is a label: what it is worth is what the hold of that sum in a sandbox is worth. -/
noncomputable def Try.pinned : Pinned := { name := "ytiicigpndagecaa", sum := "d76506db1eec355064d8a71d899cd3f76a6d175a3908be6289cb12c63f5fbba1", checked := Try.checked }
namespace Rows
def none {H : Type} : Left H := { results := [], args := [] }

/-- 'kedgelaw08.LockOpens': WHATEVER THE INPUT: true; the input reads as it did. -/
def lockOpensSpec : ChangeSpec := { name := "lockOpens", fn := fun _ => fun
  | [d] => { results := [.lit (.bool true)], args := [d] }
  | _ => none }
def lockOpensRow : OpenClaim := { program := "ytiicigpndagecaa", sum := "d76506db1eec355064d8a71d899cd3f76a6d175a3908be6289cb12c63f5fbba1", func := "kedge/kedgelaw08.LockOpens", spec := "lockOpens", inPlace := ["internal/abi.NoEscape"], unfollowed := true, recurses := true, apart := false }
def LockOpensSaid : Prop := lockOpensRow.holds Try.pinned (OpenSpec.ofChange lockOpensSpec)

/-- ITS FALSE NEIGHBOUR: 'it returns false'. Refute it at one input. -/
def lockOpensWrong : ChangeSpec := { name := "lockOpens", fn := fun _ => fun
  | [d] => { results := [.lit (.bool false)], args := [d] }
  | _ => none }
def LockOpensWrongFalsely : Prop := lockOpensRow.holds Try.pinned (OpenSpec.ofChange lockOpensWrong)

/-- 'kedgelaw08.LockRipe': WHATEVER THE INPUT: true; the input reads as it did. -/
def lockRipeSpec : ChangeSpec := { name := "lockRipe", fn := fun _ => fun
  | [d] => { results := [.lit (.bool true)], args := [d] }
  | _ => none }
def lockRipeRow : OpenClaim := { program := "ytiicigpndagecaa", sum := "d76506db1eec355064d8a71d899cd3f76a6d175a3908be6289cb12c63f5fbba1", func := "kedge/kedgelaw08.LockRipe", spec := "lockRipe", inPlace := ["internal/abi.NoEscape"], unfollowed := true, recurses := true, apart := false }
def LockRipeSaid : Prop := lockRipeRow.holds Try.pinned (OpenSpec.ofChange lockRipeSpec)

/-- ITS FALSE NEIGHBOUR: 'it returns false'. Refute it at one input. -/
def lockRipeWrong : ChangeSpec := { name := "lockRipe", fn := fun _ => fun
  | [d] => { results := [.lit (.bool false)], args := [d] }
  | _ => none }
def LockRipeWrongFalsely : Prop := lockRipeRow.holds Try.pinned (OpenSpec.ofChange lockRipeWrong)

/-- 'kedgelaw08.LockKeeps': WHATEVER THE INPUT: true; the input reads as it did. -/
def lockKeepsSpec : ChangeSpec := { name := "lockKeeps", fn := fun _ => fun
  | [d] => { results := [.lit (.bool true)], args := [d] }
  | _ => none }
def lockKeepsRow : OpenClaim := { program := "ytiicigpndagecaa", sum := "d76506db1eec355064d8a71d899cd3f76a6d175a3908be6289cb12c63f5fbba1", func := "kedge/kedgelaw08.LockKeeps", spec := "lockKeeps", inPlace := ["internal/abi.NoEscape"], unfollowed := true, recurses := true, apart := false }
def LockKeepsSaid : Prop := lockKeepsRow.holds Try.pinned (OpenSpec.ofChange lockKeepsSpec)

/-- ITS FALSE NEIGHBOUR: 'it returns false'. Refute it at one input. -/
def lockKeepsWrong : ChangeSpec := { name := "lockKeeps", fn := fun _ => fun
  | [d] => { results := [.lit (.bool false)], args := [d] }
  | _ => none }
def LockKeepsWrongFalsely : Prop := lockKeepsRow.holds Try.pinned (OpenSpec.ofChange lockKeepsWrong)

/-- 'kedgelaw08.LockPuts': WHATEVER THE INPUT: true; the input reads as it did. -/
def lockPutsSpec : ChangeSpec := { name := "lockPuts", fn := fun _ => fun
  | [d1, d2] => { results := [.lit (.bool true)], args := [d1, d2] }
  | _ => none }
def lockPutsRow : OpenClaim := { program := "ytiicigpndagecaa", sum := "d76506db1eec355064d8a71d899cd3f76a6d175a3908be6289cb12c63f5fbba1", func := "kedge/kedgelaw08.LockPuts", spec := "lockPuts", inPlace := ["internal/abi.NoEscape"], unfollowed := true, recurses := true, apart := false }
def LockPutsSaid : Prop := lockPutsRow.holds Try.pinned (OpenSpec.ofChange lockPutsSpec)

/-- ITS FALSE NEIGHBOUR: 'it returns false'. Refute it at one input. -/
def lockPutsWrong : ChangeSpec := { name := "lockPuts", fn := fun _ => fun
  | [d1, d2] => { results := [.lit (.bool false)], args := [d1, d2] }
  | _ => none }
def LockPutsWrongFalsely : Prop := lockPutsRow.holds Try.pinned (OpenSpec.ofChange lockPutsWrong)

/-- 'kedgelaw08.LockApart': WHATEVER THE INPUT: true; the input reads as it did. -/
def lockApartSpec : ChangeSpec := { name := "lockApart", fn := fun _ => fun
  | [d1, d2, d3] => { results := [.lit (.bool true)], args := [d1, d2, d3] }
  | _ => none }
def lockApartRow : OpenClaim := { program := "ytiicigpndagecaa", sum := "d76506db1eec355064d8a71d899cd3f76a6d175a3908be6289cb12c63f5fbba1", func := "kedge/kedgelaw08.LockApart", spec := "lockApart", inPlace := ["internal/abi.NoEscape"], unfollowed := true, recurses := true, apart := false }
def LockApartSaid : Prop := lockApartRow.holds Try.pinned (OpenSpec.ofChange lockApartSpec)

/-- ITS FALSE NEIGHBOUR: 'it returns false'. Refute it at one input. -/
def lockApartWrong : ChangeSpec := { name := "lockApart", fn := fun _ => fun
  | [d1, d2, d3] => { results := [.lit (.bool false)], args := [d1, d2, d3] }
  | _ => none }
def LockApartWrongFalsely : Prop := lockApartRow.holds Try.pinned (OpenSpec.ofChange lockApartWrong)

/-- 'kedgelaw08.LockSigns': WHATEVER THE INPUT: true; the input reads as it did. -/
def lockSignsSpec : ChangeSpec := { name := "lockSigns", fn := fun _ => fun
  | [d1, d2, d3] => { results := [.lit (.bool true)], args := [d1, d2, d3] }
  | _ => none }
def lockSignsRow : OpenClaim := { program := "ytiicigpndagecaa", sum := "d76506db1eec355064d8a71d899cd3f76a6d175a3908be6289cb12c63f5fbba1", func := "kedge/kedgelaw08.LockSigns", spec := "lockSigns", inPlace := ["internal/abi.NoEscape"], unfollowed := true, recurses := true, apart := false }
def LockSignsSaid : Prop := lockSignsRow.holds Try.pinned (OpenSpec.ofChange lockSignsSpec)

/-- ITS FALSE NEIGHBOUR: 'it returns false'. Refute it at one input. -/
def lockSignsWrong : ChangeSpec := { name := "lockSigns", fn := fun _ => fun
  | [d1, d2, d3] => { results := [.lit (.bool false)], args := [d1, d2, d3] }
  | _ => none }
def LockSignsWrongFalsely : Prop := lockSignsRow.holds Try.pinned (OpenSpec.ofChange lockSignsWrong)

/- THE SECOND FORM. 'bulk': how many values and letters a reading holds, each counted each time it is reached (what is shared counts as often as it is met; a slice's spare places count too). A statement '..UptoSaid' is the law's where the arguments, and the package variables that the reading takes, are together of bulk at most 1048576: NARROWER than '..Said'. Prove '..Said' where nothing that the law and all that it calls make is longer than what came in: it says more and counts as full. Else prove '..UptoSaid'. A law counts once. -/
mutual
def uptoBulk {H : Type} : DataW H → Nat
  | .lit (.string bytes) => bytes.length + 1
  | .lit _ => 1
  | .nil => 1
  | .ptr d => uptoBulk d + 1
  | .slice elems spare => uptoBulkAll elems + uptoBulkAll spare + 1
  | .agg parts => uptoBulkAll parts + 1
  | .iface _ d => uptoBulk d + 1
  | .map entries => uptoBulkEntries entries + 1
  | .held _ => 1
def uptoBulkAll {H : Type} : List (DataW H) → Nat
  | [] => 0
  | d :: r => uptoBulk d + uptoBulkAll r
def uptoBulkEntries {H : Type} : List (Lit × DataW H) → Nat
  | [] => 0
  | x :: r => uptoBulkEntry x + uptoBulkEntries r
def uptoBulkEntry {H : Type} : Lit × DataW H → Nat
  | (.string bytes, d) => bytes.length + uptoBulk d + 1
  | (_, d) => uptoBulk d + 1
 end
def uptoSmall : (H : Type) → List (DataW H) → Bool := fun _ ds => decide (uptoBulkAll ds ≤ 1048576)
def OpenSpec.upto (s : _root_.Go.ChangeSpec) : _root_.Go.OpenSpec := { _root_.Go.OpenSpec.ofChange s with cond := some uptoSmall }

/-- 'kedgelaw08.LockOpens', WHERE WHAT IT READS IS OF BULK AT MOST 1048576: true; the input reads as it did. -/
def lockOpensUptoRow : OpenClaim := { program := "ytiicigpndagecaa", sum := "d76506db1eec355064d8a71d899cd3f76a6d175a3908be6289cb12c63f5fbba1", func := "kedge/kedgelaw08.LockOpens", spec := "lockOpens", inPlace := ["internal/abi.NoEscape"], unfollowed := true, recurses := true, apart := false, narrowed := true }
def LockOpensUptoSaid : Prop := lockOpensUptoRow.holds Try.pinned (OpenSpec.upto lockOpensSpec)

/-- 'kedgelaw08.LockRipe', WHERE WHAT IT READS IS OF BULK AT MOST 1048576: true; the input reads as it did. -/
def lockRipeUptoRow : OpenClaim := { program := "ytiicigpndagecaa", sum := "d76506db1eec355064d8a71d899cd3f76a6d175a3908be6289cb12c63f5fbba1", func := "kedge/kedgelaw08.LockRipe", spec := "lockRipe", inPlace := ["internal/abi.NoEscape"], unfollowed := true, recurses := true, apart := false, narrowed := true }
def LockRipeUptoSaid : Prop := lockRipeUptoRow.holds Try.pinned (OpenSpec.upto lockRipeSpec)

/-- 'kedgelaw08.LockKeeps', WHERE WHAT IT READS IS OF BULK AT MOST 1048576: true; the input reads as it did. -/
def lockKeepsUptoRow : OpenClaim := { program := "ytiicigpndagecaa", sum := "d76506db1eec355064d8a71d899cd3f76a6d175a3908be6289cb12c63f5fbba1", func := "kedge/kedgelaw08.LockKeeps", spec := "lockKeeps", inPlace := ["internal/abi.NoEscape"], unfollowed := true, recurses := true, apart := false, narrowed := true }
def LockKeepsUptoSaid : Prop := lockKeepsUptoRow.holds Try.pinned (OpenSpec.upto lockKeepsSpec)

/-- 'kedgelaw08.LockPuts', WHERE WHAT IT READS IS OF BULK AT MOST 1048576: true; the input reads as it did. -/
def lockPutsUptoRow : OpenClaim := { program := "ytiicigpndagecaa", sum := "d76506db1eec355064d8a71d899cd3f76a6d175a3908be6289cb12c63f5fbba1", func := "kedge/kedgelaw08.LockPuts", spec := "lockPuts", inPlace := ["internal/abi.NoEscape"], unfollowed := true, recurses := true, apart := false, narrowed := true }
def LockPutsUptoSaid : Prop := lockPutsUptoRow.holds Try.pinned (OpenSpec.upto lockPutsSpec)

/-- 'kedgelaw08.LockApart', WHERE WHAT IT READS IS OF BULK AT MOST 1048576: true; the input reads as it did. -/
def lockApartUptoRow : OpenClaim := { program := "ytiicigpndagecaa", sum := "d76506db1eec355064d8a71d899cd3f76a6d175a3908be6289cb12c63f5fbba1", func := "kedge/kedgelaw08.LockApart", spec := "lockApart", inPlace := ["internal/abi.NoEscape"], unfollowed := true, recurses := true, apart := false, narrowed := true }
def LockApartUptoSaid : Prop := lockApartUptoRow.holds Try.pinned (OpenSpec.upto lockApartSpec)

/-- 'kedgelaw08.LockSigns', WHERE WHAT IT READS IS OF BULK AT MOST 1048576: true; the input reads as it did. -/
def lockSignsUptoRow : OpenClaim := { program := "ytiicigpndagecaa", sum := "d76506db1eec355064d8a71d899cd3f76a6d175a3908be6289cb12c63f5fbba1", func := "kedge/kedgelaw08.LockSigns", spec := "lockSigns", inPlace := ["internal/abi.NoEscape"], unfollowed := true, recurses := true, apart := false, narrowed := true }
def LockSignsUptoSaid : Prop := lockSignsUptoRow.holds Try.pinned (OpenSpec.upto lockSignsSpec)

end Rows
end Go.Proofs.Ytiicigpndagecaa
