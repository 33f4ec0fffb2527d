/-
  No cell of these rows narrows 'for every input' (looked for: loops, veiled, ifaces, maps, wideKeys, modest, calm, conditions, laid).
  DERIVED. THE GIVEN ROWS OF THIS SEAT. 5 by the template 'for every input the law returns true; each argument reads behind the call as it read before'; 0 by the template 'total and deterministic' (their statements: YtfkcldaogfengaaTotals.lean).
  GIVEN WITH THE SEED: the statements are not yours to turn. If you find one false, say at which input.
  Laid BY PROGRAM, IN A SANDBOX (cutbox-rows.mjs): the forced cells as the released guide's own fill.sh prints them over the translation 3084084f6e33b6bc… (all of the seat's roots in one cut). By AI agents, Wed Nov 11 2026. No macro, syntax, notation, axiom, sorry.
-/
import Derived.Test.YtfkcldaogfengaaChecked
import GoSem.Claim
import GoSem.ClaimJoined
import GoSem.ClaimMapViews
import Derived.JoinedTies
import Derived.KernelRfl
namespace Go.Proofs.Ytfkcldaogfengaa
/- THE CELL 'sum', in the pinned program and in every row, IS THE sha256 OF THE DUMP (.gsa) THAT YtfkcldaogfengaaProg.lean LOADS. Nothing in Lean hashes anything: it is a label: what it is worth is what the hold of that sum in a sandbox is worth. -/
noncomputable def Try.pinned : Pinned := { name := "ytfkcldaogfengaa", sum := "3084084f6e33b6bcbd8fca00ad62828eaad4401e51f7094c83ce5dfe96cfd0e1", checked := Try.checked }
namespace Rows
def none {H : Type} : Left H := { results := [], args := [] }

/-- 'kedgelaw21.MinerScores': WHATEVER THE INPUT: true; the input reads as it did. -/
def minerScoresSpec : ChangeSpec := { name := "minerScores", fn := fun _ => fun
  | [d1, d2, d3] => { results := [.lit (.bool true)], args := [d1, d2, d3] }
  | _ => none }
def minerScoresRow : OpenClaim := { program := "ytfkcldaogfengaa", sum := "3084084f6e33b6bcbd8fca00ad62828eaad4401e51f7094c83ce5dfe96cfd0e1", func := "kedge/kedgelaw21.MinerScores", spec := "minerScores", unfollowed := true, recurses := true, apart := false }
def MinerScoresSaid : Prop := minerScoresRow.holds Try.pinned (OpenSpec.ofChange minerScoresSpec)

/-- ITS FALSE NEIGHBOUR: 'it returns false'. Refute it at one input. -/
def minerScoresWrong : ChangeSpec := { name := "minerScores", fn := fun _ => fun
  | [d1, d2, d3] => { results := [.lit (.bool false)], args := [d1, d2, d3] }
  | _ => none }
def MinerScoresWrongFalsely : Prop := minerScoresRow.holds Try.pinned (OpenSpec.ofChange minerScoresWrong)

/-- 'kedgelaw21.MinerTemplates': WHATEVER THE INPUT: true; the input reads as it did. -/
def minerTemplatesSpec : ChangeSpec := { name := "minerTemplates", fn := fun _ => fun
  | [d1, d2, d3] => { results := [.lit (.bool true)], args := [d1, d2, d3] }
  | _ => none }
def minerTemplatesRow : OpenClaim := { program := "ytfkcldaogfengaa", sum := "3084084f6e33b6bcbd8fca00ad62828eaad4401e51f7094c83ce5dfe96cfd0e1", func := "kedge/kedgelaw21.MinerTemplates", spec := "minerTemplates", unfollowed := true, recurses := true, apart := false }
def MinerTemplatesSaid : Prop := minerTemplatesRow.holds Try.pinned (OpenSpec.ofChange minerTemplatesSpec)

/-- ITS FALSE NEIGHBOUR: 'it returns false'. Refute it at one input. -/
def minerTemplatesWrong : ChangeSpec := { name := "minerTemplates", fn := fun _ => fun
  | [d1, d2, d3] => { results := [.lit (.bool false)], args := [d1, d2, d3] }
  | _ => none }
def MinerTemplatesWrongFalsely : Prop := minerTemplatesRow.holds Try.pinned (OpenSpec.ofChange minerTemplatesWrong)

/-- 'kedgelaw21.MinerKeeps': WHATEVER THE INPUT: true; the input reads as it did. -/
def minerKeepsSpec : ChangeSpec := { name := "minerKeeps", fn := fun _ => fun
  | [d1, d2, d3] => { results := [.lit (.bool true)], args := [d1, d2, d3] }
  | _ => none }
def minerKeepsRow : OpenClaim := { program := "ytfkcldaogfengaa", sum := "3084084f6e33b6bcbd8fca00ad62828eaad4401e51f7094c83ce5dfe96cfd0e1", func := "kedge/kedgelaw21.MinerKeeps", spec := "minerKeeps", unfollowed := true, recurses := true, apart := false }
def MinerKeepsSaid : Prop := minerKeepsRow.holds Try.pinned (OpenSpec.ofChange minerKeepsSpec)

/-- ITS FALSE NEIGHBOUR: 'it returns false'. Refute it at one input. -/
def minerKeepsWrong : ChangeSpec := { name := "minerKeeps", fn := fun _ => fun
  | [d1, d2, d3] => { results := [.lit (.bool false)], args := [d1, d2, d3] }
  | _ => none }
def MinerKeepsWrongFalsely : Prop := minerKeepsRow.holds Try.pinned (OpenSpec.ofChange minerKeepsWrong)

/-- 'kedgelaw21.MinerRises': WHATEVER THE INPUT: true; the input reads as it did. -/
def minerRisesSpec : ChangeSpec := { name := "minerRises", fn := fun _ => fun
  | [d1, d2, d3] => { results := [.lit (.bool true)], args := [d1, d2, d3] }
  | _ => none }
def minerRisesRow : OpenClaim := { program := "ytfkcldaogfengaa", sum := "3084084f6e33b6bcbd8fca00ad62828eaad4401e51f7094c83ce5dfe96cfd0e1", func := "kedge/kedgelaw21.MinerRises", spec := "minerRises", unfollowed := true, recurses := true, apart := false }
def MinerRisesSaid : Prop := minerRisesRow.holds Try.pinned (OpenSpec.ofChange minerRisesSpec)

/-- ITS FALSE NEIGHBOUR: 'it returns false'. Refute it at one input. -/
def minerRisesWrong : ChangeSpec := { name := "minerRises", fn := fun _ => fun
  | [d1, d2, d3] => { results := [.lit (.bool false)], args := [d1, d2, d3] }
  | _ => none }
def MinerRisesWrongFalsely : Prop := minerRisesRow.holds Try.pinned (OpenSpec.ofChange minerRisesWrong)

/-- 'kedgelaw21.MinerOrder': WHATEVER THE INPUT: true; the input reads as it did. -/
def minerOrderSpec : ChangeSpec := { name := "minerOrder", fn := fun _ => fun
  | [d1, d2] => { results := [.lit (.bool true)], args := [d1, d2] }
  | _ => none }
def minerOrderRow : OpenClaim := { program := "ytfkcldaogfengaa", sum := "3084084f6e33b6bcbd8fca00ad62828eaad4401e51f7094c83ce5dfe96cfd0e1", func := "kedge/kedgelaw21.MinerOrder", spec := "minerOrder", unfollowed := true, recurses := true, apart := false }
def MinerOrderSaid : Prop := minerOrderRow.holds Try.pinned (OpenSpec.ofChange minerOrderSpec)

/-- ITS FALSE NEIGHBOUR: 'it returns false'. Refute it at one input. -/
def minerOrderWrong : ChangeSpec := { name := "minerOrder", fn := fun _ => fun
  | [d1, d2] => { results := [.lit (.bool false)], args := [d1, d2] }
  | _ => none }
def MinerOrderWrongFalsely : Prop := minerOrderRow.holds Try.pinned (OpenSpec.ofChange minerOrderWrong)

/- THE SECOND FORM. 'bulk': how many values and letters a reading holds, each counted each time it is reached (what is shared counts as often as it is met; a slice's spare places count too). A statement '..UptoSaid' is the law's where the arguments, and the package variables that the reading takes, are together of bulk at most 1048576: NARROWER than '..Said'. Prove '..Said' where nothing that the law and all that it calls make is longer than what came in: it says more and counts as full. Else prove '..UptoSaid'. A law counts once. -/
mutual
def uptoBulk {H : Type} : DataW H → Nat
  | .lit (.string bytes) => bytes.length + 1
  | .lit _ => 1
  | .nil => 1
  | .ptr d => uptoBulk d + 1
  | .slice elems spare => uptoBulkAll elems + uptoBulkAll spare + 1
  | .agg parts => uptoBulkAll parts + 1
  | .iface _ d => uptoBulk d + 1
  | .map entries => uptoBulkEntries entries + 1
  | .held _ => 1
def uptoBulkAll {H : Type} : List (DataW H) → Nat
  | [] => 0
  | d :: r => uptoBulk d + uptoBulkAll r
def uptoBulkEntries {H : Type} : List (Lit × DataW H) → Nat
  | [] => 0
  | x :: r => uptoBulkEntry x + uptoBulkEntries r
def uptoBulkEntry {H : Type} : Lit × DataW H → Nat
  | (.string bytes, d) => bytes.length + uptoBulk d + 1
  | (_, d) => uptoBulk d + 1
 end
def uptoSmall : (H : Type) → List (DataW H) → Bool := fun _ ds => decide (uptoBulkAll ds ≤ 1048576)
def OpenSpec.upto (s : _root_.Go.ChangeSpec) : _root_.Go.OpenSpec := { _root_.Go.OpenSpec.ofChange s with cond := some uptoSmall }

/-- 'kedgelaw21.MinerScores', WHERE WHAT IT READS IS OF BULK AT MOST 1048576: true; the input reads as it did. -/
def minerScoresUptoRow : OpenClaim := { program := "ytfkcldaogfengaa", sum := "3084084f6e33b6bcbd8fca00ad62828eaad4401e51f7094c83ce5dfe96cfd0e1", func := "kedge/kedgelaw21.MinerScores", spec := "minerScores", unfollowed := true, recurses := true, apart := false, narrowed := true }
def MinerScoresUptoSaid : Prop := minerScoresUptoRow.holds Try.pinned (OpenSpec.upto minerScoresSpec)

/-- 'kedgelaw21.MinerTemplates', WHERE WHAT IT READS IS OF BULK AT MOST 1048576: true; the input reads as it did. -/
def minerTemplatesUptoRow : OpenClaim := { program := "ytfkcldaogfengaa", sum := "3084084f6e33b6bcbd8fca00ad62828eaad4401e51f7094c83ce5dfe96cfd0e1", func := "kedge/kedgelaw21.MinerTemplates", spec := "minerTemplates", unfollowed := true, recurses := true, apart := false, narrowed := true }
def MinerTemplatesUptoSaid : Prop := minerTemplatesUptoRow.holds Try.pinned (OpenSpec.upto minerTemplatesSpec)

/-- 'kedgelaw21.MinerKeeps', WHERE WHAT IT READS IS OF BULK AT MOST 1048576: true; the input reads as it did. -/
def minerKeepsUptoRow : OpenClaim := { program := "ytfkcldaogfengaa", sum := "3084084f6e33b6bcbd8fca00ad62828eaad4401e51f7094c83ce5dfe96cfd0e1", func := "kedge/kedgelaw21.MinerKeeps", spec := "minerKeeps", unfollowed := true, recurses := true, apart := false, narrowed := true }
def MinerKeepsUptoSaid : Prop := minerKeepsUptoRow.holds Try.pinned (OpenSpec.upto minerKeepsSpec)

/-- 'kedgelaw21.MinerRises', WHERE WHAT IT READS IS OF BULK AT MOST 1048576: true; the input reads as it did. -/
def minerRisesUptoRow : OpenClaim := { program := "ytfkcldaogfengaa", sum := "3084084f6e33b6bcbd8fca00ad62828eaad4401e51f7094c83ce5dfe96cfd0e1", func := "kedge/kedgelaw21.MinerRises", spec := "minerRises", unfollowed := true, recurses := true, apart := false, narrowed := true }
def MinerRisesUptoSaid : Prop := minerRisesUptoRow.holds Try.pinned (OpenSpec.upto minerRisesSpec)

/-- 'kedgelaw21.MinerOrder', WHERE WHAT IT READS IS OF BULK AT MOST 1048576: true; the input reads as it did. -/
def minerOrderUptoRow : OpenClaim := { program := "ytfkcldaogfengaa", sum := "3084084f6e33b6bcbd8fca00ad62828eaad4401e51f7094c83ce5dfe96cfd0e1", func := "kedge/kedgelaw21.MinerOrder", spec := "minerOrder", unfollowed := true, recurses := true, apart := false, narrowed := true }
def MinerOrderUptoSaid : Prop := minerOrderUptoRow.holds Try.pinned (OpenSpec.upto minerOrderSpec)

end Rows
end Go.Proofs.Ytfkcldaogfengaa
