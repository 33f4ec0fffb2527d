/-
  strings.Builder (Bld), for the texts about sha. Conditions: none.
-/
import Derived.Test.YtmakghcoehkphaaSha4
import Derived.Test.YtmakghcoehkphaaBld
namespace Go.Proofs.Ytmakghcoehkphaa
end Go.Proofs.Ytmakghcoehkphaa
