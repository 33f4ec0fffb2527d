/-
  Locks, the thirteenth part: is an input of another sequence than the last one there? Conditions: none beyond each theorem's own.
-/
import Derived.Test.YtmakghcoehkphaaLock12
namespace Go.Proofs.Ytmakghcoehkphaa
open Go.RowKit Go.BigFrame
set_option linter.unusedVariables false

def lastSeq (x : PIn) : Bool := decide (x.seq = 4294967295)
end Go.Proofs.Ytmakghcoehkphaa
