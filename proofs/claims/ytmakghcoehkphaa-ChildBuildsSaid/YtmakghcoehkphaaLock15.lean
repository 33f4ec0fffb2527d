/-
  Locks, the fifteenth part: the document's Ripe. Conditions: none beyond each theorem's own.
-/
import Derived.Test.YtmakghcoehkphaaLock14
namespace Go.Proofs.Ytmakghcoehkphaa
open Go.RowKit Go.BigFrame
set_option linter.unusedVariables false

end Go.Proofs.Ytmakghcoehkphaa
