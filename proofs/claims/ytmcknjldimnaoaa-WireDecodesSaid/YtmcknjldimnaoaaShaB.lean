/-
  strings.Builder (Bld), for the texts about sha. Conditions: none.
-/
import Derived.Test.YtmcknjldimnaoaaSha4
import Derived.Test.YtmcknjldimnaoaaBld
namespace Go.Proofs.Ytmcknjldimnaoaa
end Go.Proofs.Ytmcknjldimnaoaa
