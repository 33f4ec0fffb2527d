/-
  strings.Builder (Bld), for the texts about sha. Conditions: none.
-/
import Derived.Test.YtfkcldaogfengaaSha4
import Derived.Test.YtfkcldaogfengaaBld
namespace Go.Proofs.Ytfkcldaogfengaa
end Go.Proofs.Ytfkcldaogfengaa
