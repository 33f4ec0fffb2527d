/-
  SHA-256: sha.padded. Conditions: the text has no more than 2^40 bytes.
-/
import Derived.Test.YtfkcldaogfengaaSha7
import Derived.Test.YtfkcldaogfengaaShelf
namespace Go.Proofs.Ytfkcldaogfengaa
open Go.RowKit Go.BigFrame
set_option linter.unusedVariables false
set_option linter.unusedSimpArgs false

def PaddedIs (s : ByteArray) (w : World) (e : Ending) (w' : World) : Prop := e = .returned (.string ⟨(padL s.data.toList).toArray⟩) ∧ Below w.heap.size w w'
end Go.Proofs.Ytfkcldaogfengaa
